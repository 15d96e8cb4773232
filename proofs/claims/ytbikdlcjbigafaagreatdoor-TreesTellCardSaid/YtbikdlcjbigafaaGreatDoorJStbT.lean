/-
  A row of turns in memory; two of them exchanged. slices.swapRangeCmpFunc and rotateCmpFunc over turns. slices.insertionSortCmpFunc over turns. slices.symMergeCmpFunc over turns. slices.symMergeCmpFunc over turns: halves of more than one. slices.SortStableFunc over turns: the row is put in order.
-/
import Derived.BigRegion
import Derived.RegionTactic
import Derived.Deep.RegionHeld3
import Derived.OrdersHeld
import Derived.Deep.DeepCutAuto
import Derived.Test.YtbikdlcjbigafaaGreatDoorJZonB0
import Derived.Test.YtbikdlcjbigafaaGreatDoorJTreeT
namespace Go.Proofs.YtbikdlcjbigafaaGreatDoor
set_option linter.unusedVariables false
set_option linter.unusedSimpArgs false
open Go.ChangeShapes Go.WideShapes Go.ChangeAt Go.RowKit

/-- a turn's cells, as the code holds it: what is told, its place (then its instant), what is saved, letters. -/
def chV (x : Trn) : List Value := [.int .i64 x.no, .int .i64 x.tg, .int .i64 x.r.sv, .string x.r.lt]
/-- the block D holds turns from off on, and may be written. -/
def RowC (w : World) (D off : Nat) (l : List Trn) : Prop :=
  (∀ i (h : i < l.length), w.cell? ⟨D, off + i * 4, none⟩ = some (.int .i64 l[i].no) ∧ w.cell? ⟨D, off + i * 4 + 1, none⟩ = some (.int .i64 l[i].tg) ∧ w.cell? ⟨D, off + i * 4 + 2, none⟩ = some (.int .i64 l[i].r.sv) ∧ w.cell? ⟨D, off + i * 4 + 3, none⟩ = some (.string l[i].r.lt)) ∧
  (∀ o, w.frozen? ⟨D, o, none⟩ = false) ∧ D < w.heap.size
theorem RowC.block {w w' : World} {D off : Nat} {l : List Trn} (h : RowC w D off l) (e : w'.heap[D]? = w.heap[D]?) (hz : D < w'.heap.size) : RowC w' D off l := by
  refine ⟨fun i hi => ?_, fun o => ?_, hz⟩
  · obtain ⟨a, b, c, d⟩ := h.1 i hi
    exact ⟨(World.cell?_of_block (a := ⟨D, _, none⟩) e).trans a, (World.cell?_of_block (a := ⟨D, _, none⟩) e).trans b, (World.cell?_of_block (a := ⟨D, _, none⟩) e).trans c, (World.cell?_of_block (a := ⟨D, _, none⟩) e).trans d⟩
  · exact (World.frozen?_of_block (a := ⟨D, o, none⟩) e).trans (h.2.1 o)
theorem RowC.below {w w' : World} {D off : Nat} {l : List Trn} (h : RowC w D off l) (hb : Below w.heap.size w w') : RowC w' D off l := h.block (hb.block D h.2.2) (Nat.lt_of_lt_of_le h.2.2 hb.size)
/-- two elements exchanged. -/
def swp (l : List Trn) (i j : Nat) : List Trn := match l[i]?, l[j]? with
  | some x, some y => (l.set i y).set j x
  | _, _ => l
theorem swp_mid {A M B : List Trn} (x y : Trn) : swp (A ++ x :: (M ++ y :: B)) A.length (A.length + 1 + M.length) = A ++ y :: (M ++ x :: B) := by
  have h1 : (A ++ x :: (M ++ y :: B))[A.length]? = some x := by simp
  have h2 : (A ++ x :: (M ++ y :: B))[A.length + 1 + M.length]? = some y := by
    rw [List.getElem?_append_right (by omega), show A.length + 1 + M.length - A.length = M.length + 1 by omega, List.getElem?_cons_succ]
    simp
  unfold swp
  rw [h1, h2]
  simp only
  have e1 : (A ++ x :: (M ++ y :: B)).set A.length y = A ++ y :: (M ++ y :: B) := by simp
  have e2 : (A ++ y :: (M ++ y :: B)).set (A.length + 1 + M.length) x = A ++ y :: (M ++ x :: B) := by
    have e3 : A ++ y :: (M ++ y :: B) = (A ++ y :: M) ++ y :: B := by simp
    have e4 : A.length + 1 + M.length = (A ++ y :: M).length := by simp; omega
    rw [e3, e4]
    simp
  rw [e1, e2]
theorem swp_sym (l : List Trn) (i j : Nat) : swp l i j = swp l j i := by
  unfold swp
  rcases hi : l[i]? with _ | x <;> rcases hj : l[j]? with _ | y <;> simp only
  by_cases e : i = j
  · subst e
    rw [hi] at hj
    obtain rfl := Option.some.inj hj
    rfl
  · rw [List.set_comm _ _ e]
theorem swp_adj {A B : List Trn} (x y : Trn) : swp (A ++ x :: y :: B) A.length (A.length + 1) = A ++ y :: x :: B := swp_mid (M := []) x y
/-- w' is w with new blocks and writes to block D alone. -/
def GW (D : Nat) (w w' : World) : Prop := w.grownBy w' (some D)
theorem GW.refl (D : Nat) (w : World) : GW D w w := ⟨rfl, rfl, rfl, Nat.le_refl _, fun _ _ _ => rfl⟩
theorem GW.trans {D : Nat} {w w1 w2 : World} (h : GW D w w1) (g : GW D w1 w2) : GW D w w2 :=
  ⟨g.os.trans h.os, g.tape.trans h.tape, g.output.trans h.output, Nat.le_trans h.size g.size, fun k hk hne => (g.block k (Nat.lt_of_lt_of_le hk h.size) hne).trans (h.block k hk hne)⟩
theorem GW.below {D : Nat} {w w1 w2 : World} (h : GW D w w1) (g : Below w1.heap.size w1 w2) : GW D w w2 :=
  ⟨g.os.trans h.os, g.tape.trans h.tape, g.output.trans h.output, Nat.le_trans h.size g.size, fun k hk hne => (g.block k (Nat.lt_of_lt_of_le hk h.size)).trans (h.block k hk hne)⟩
theorem GW.drew {D : Nat} {w w1 : World} (h : GW D w w1) : GW D w w1.drew := ⟨h.os, h.tape, h.output, h.size, h.block⟩
theorem GW.set {D : Nat} {w w1 : World} (h : GW D w w1) (o : Nat) (v : Value) : GW D w (w1.setCell ⟨D, o, none⟩ v) :=
  ⟨h.os, h.tape, h.output, by rw [World.size_setCell]; exact h.size, fun k hk hne => (RowKit.Below.heap_setCell _ _ _ _ (fun e => hne (by rw [e]))).trans (h.block k hk hne)⟩
theorem GW.to {D B : Nat} {w w1 : World} (h : GW D w w1) (hB : B ≤ w.heap.size) (hD : B ≤ D) : Below B w w1 := (Below.refl B w).grown h hB (fun k e => by obtain rfl := Option.some.inj e; exact hD)
/-- four cells written. -/
def put4 (w : World) (D o : Nat) (x : Trn) : World := (((w.setCell ⟨D, o, none⟩ (.int .i64 x.no)).setCell ⟨D, o + 1, none⟩ (.int .i64 x.tg)).setCell ⟨D, o + 2, none⟩ (.int .i64 x.r.sv)).setCell ⟨D, o + 3, none⟩ (.string x.r.lt)
theorem GW.put {D : Nat} {w w1 : World} (h : GW D w w1) (o : Nat) (x : Trn) : GW D w (put4 w1 D o x) := (((h.set _ _).set _ _).set _ _).set _ _
theorem size_put4 (w : World) (D o : Nat) (x : Trn) : (put4 w D o x).heap.size = w.heap.size := by
  unfold put4
  rw [World.size_setCell, World.size_setCell, World.size_setCell, World.size_setCell]
theorem set_other {w : World} {D i j : Nat} {u : Value} (h : j ≠ i) : (w.setCell ⟨D, i, none⟩ u).cell? ⟨D, j, none⟩ = w.cell? ⟨D, j, none⟩ :=
  World.cell?_setCell_other _ _ _ _ (fun e => h (by injection e with _ e2; exact e2.symm))
theorem set_sameZ {w : World} {D i : Nat} {u v : Value} (hc : w.cell? ⟨D, i, none⟩ = some v) : (w.setCell ⟨D, i, none⟩ u).cell? ⟨D, i, none⟩ = some u := World.cell?_setCell_same (h := hc) ..
theorem put4_other {w : World} {D o j : Nat} {x : Trn} (h : j < o ∨ o + 3 < j) : (put4 w D o x).cell? ⟨D, j, none⟩ = w.cell? ⟨D, j, none⟩ := by
  unfold put4
  rw [set_other (by omega), set_other (by omega), set_other (by omega), set_other (by omega)]
theorem put4_same {w : World} {D o : Nat} {x : Trn} {v0 v1 v2 v3 : Value} (h0 : w.cell? ⟨D, o, none⟩ = some v0) (h1 : w.cell? ⟨D, o + 1, none⟩ = some v1) (h2 : w.cell? ⟨D, o + 2, none⟩ = some v2) (h3 : w.cell? ⟨D, o + 3, none⟩ = some v3) :
    (put4 w D o x).cell? ⟨D, o, none⟩ = some (.int .i64 x.no) ∧ (put4 w D o x).cell? ⟨D, o + 1, none⟩ = some (.int .i64 x.tg) ∧ (put4 w D o x).cell? ⟨D, o + 2, none⟩ = some (.int .i64 x.r.sv) ∧ (put4 w D o x).cell? ⟨D, o + 3, none⟩ = some (.string x.r.lt) := by
  unfold put4
  refine ⟨?_, ?_, ?_, ?_⟩
  · rw [set_other (by omega), set_other (by omega), set_other (by omega)]
    exact set_sameZ h0
  · rw [set_other (by omega), set_other (by omega)]
    exact set_sameZ (by rw [set_other (by omega)]; exact h1)
  · rw [set_other (by omega)]
    exact set_sameZ (by rw [set_other (by omega), set_other (by omega)]; exact h2)
  · exact set_sameZ (by rw [set_other (by omega), set_other (by omega), set_other (by omega)]; exact h3)
theorem RowC.put {w : World} {D off : Nat} {l : List Trn} (h : RowC w D off l) {i : Nat} (hi : i < l.length) (y : Trn) : RowC (put4 w D (off + i * 4) y) D off (l.set i y) := by
  refine ⟨fun k hk => ?_, fun o => ?_, by rw [size_put4]; exact h.2.2⟩
  · rw [List.length_set] at hk
    obtain ⟨a, b, c, d⟩ := h.1 k hk
    by_cases e : i = k
    · subst e
      rw [List.getElem_set_self]
      exact put4_same a b c d
    · rw [List.getElem_set_ne e]
      exact ⟨(put4_other (by omega)).trans a, (put4_other (by omega)).trans b, (put4_other (by omega)).trans c, (put4_other (by omega)).trans d⟩
  · unfold put4
    rw [World.frozen?_setCell, World.frozen?_setCell, World.frozen?_setCell, World.frozen?_setCell]
    exact h.2.1 o
theorem RowC.drew {w : World} {D off : Nat} {l : List Trn} (h : RowC w D off l) : RowC w.drew D off l := h
/-- two elements exchanged, in memory. -/
theorem RowC.swap {w : World} {D off : Nat} {l : List Trn} (h : RowC w D off l) {i j : Nat} {x y : Trn} (hi : l[i]? = some x) (hj : l[j]? = some y) :
    RowC (put4 (put4 w D (off + i * 4) y) D (off + j * 4) x).drew D off (swp l i j) := by
  obtain ⟨hi', -⟩ := List.getElem?_eq_some_iff.1 hi
  obtain ⟨hj', -⟩ := List.getElem?_eq_some_iff.1 hj
  unfold swp
  rw [hi, hj]
  exact ((h.put hi' y).put (by rw [List.length_set]; exact hj') x).drew
theorem GW.swap {D : Nat} {w w1 : World} (h : GW D w w1) (o o' : Nat) (x y : Trn) : GW D w (put4 (put4 w1 D o y) D o' x).drew := ((h.put _ _).put _ _).drew
theorem RowC.at {w : World} {D off : Nat} {l : List Trn} (h : RowC w D off l) {i : Nat} {x : Trn} (hi : l[i]? = some x) :
    w.cell? ⟨D, off + i * 4, none⟩ = some (.int .i64 x.no) ∧ w.cell? ⟨D, off + i * 4 + 1, none⟩ = some (.int .i64 x.tg) ∧ w.cell? ⟨D, off + i * 4 + 2, none⟩ = some (.int .i64 x.r.sv) ∧ w.cell? ⟨D, off + i * 4 + 3, none⟩ = some (.string x.r.lt) := by
  obtain ⟨hi', rfl⟩ := List.getElem?_eq_some_iff.1 hi
  exact h.1 i hi'
end Go.Proofs.YtbikdlcjbigafaaGreatDoor
namespace Go.Proofs.YtbikdlcjbigafaaGreatDoor
set_option linter.unusedVariables false
set_option linter.unusedSimpArgs false
open Go.ChangeShapes Go.WideShapes Go.ChangeAt Go.RowKit

theorem swr_step {P U1 U2 M V1 V2 S : List Trn} {x y : Trn} {a b j k : Nat} (ha : a = P.length) (hk : k = U1.length + 1 + U2.length) (hj : j = U1.length) (hV : V1.length = U1.length) (hb : b = a + k + M.length) :
    (P ++ (V1 ++ ((x :: U2) ++ (M ++ (U1 ++ ((y :: V2) ++ S))))))[a + j]? = some x ∧ (P ++ (V1 ++ ((x :: U2) ++ (M ++ (U1 ++ ((y :: V2) ++ S))))))[b + j]? = some y ∧
    swp (P ++ (V1 ++ ((x :: U2) ++ (M ++ (U1 ++ ((y :: V2) ++ S)))))) (a + j) (b + j) = P ++ ((V1 ++ [y]) ++ (U2 ++ (M ++ ((U1 ++ [x]) ++ (V2 ++ S))))) := by
  have e : P ++ (V1 ++ ((x :: U2) ++ (M ++ (U1 ++ ((y :: V2) ++ S))))) = (P ++ V1) ++ x :: ((U2 ++ (M ++ U1)) ++ y :: (V2 ++ S)) := by simp
  have e1 : a + j = (P ++ V1).length := by rw [List.length_append]; omega
  have e2 : b + j = (P ++ V1).length + 1 + (U2 ++ (M ++ U1)).length := by simp only [List.length_append]; omega
  rw [e, e1, e2]
  refine ⟨by simp, ?_, ?_⟩
  · rw [List.getElem?_append_right (by omega), show (P ++ V1).length + 1 + (U2 ++ (M ++ U1)).length - (P ++ V1).length = (U2 ++ (M ++ U1)).length + 1 by omega, List.getElem?_cons_succ]
    simp
  · rw [swp_mid]
    simp
set_option maxHeartbeats 4000000 in
set_option maxRecDepth 100000 in
theorem swapRange_any (D off n cap : Nat) (P U M V S : List Trn) (a b k : Int) (f : Value) (w : World) (h : RowC w D off (P ++ (U ++ (M ++ (V ++ S))))) (hn : n = (P ++ (U ++ (M ++ (V ++ S)))).length) (ha : a = (P.length : Int)) (hk : k = (U.length : Int)) (hV : V.length = U.length) (hb : b = (P.length : Int) + U.length + M.length) (hn8 : n ≤ 100000) :
    Calls Tryz.prog 191 #[.slice (some ⟨D, off, none⟩) n cap, .int .i64 a, .int .i64 b, .int .i64 k, f] w fun e w' => e = .returned (.tuple #[]) ∧ RowC w' D off (P ++ (V ++ (M ++ (U ++ S)))) ∧ GW D w w' := by
  obtain ⟨pa, hpa⟩ : ∃ pa : Nat, pa = P.length := ⟨_, rfl⟩
  obtain ⟨pk, hpk⟩ : ∃ pk : Nat, pk = U.length := ⟨_, rfl⟩
  obtain ⟨pb, hpb⟩ : ∃ pb : Nat, pb = pa + pk + M.length := ⟨_, rfl⟩
  have ea : a = (pa : Int) := by omega
  have ek : k = (pk : Int) := by omega
  have eb : b = (pb : Int) := by omega
  have hbn : pb + pk ≤ n := by rw [hn]; simp only [List.length_append]; omega
  have hab : pa + pk ≤ pb := by omega
  subst ea ek eb
  have HR := Lib.hid h
  have HN := Lib.hid hn
  have HPA := Lib.hid hpa
  have HPK := Lib.hid hpk
  have HPB := Lib.hid hpb
  have HVL := Lib.hid hV
  clear h hn ha hk hV hb hpa hpk hpb
  go_enter Tryz.func191, Tryz.ntmps191
  go_wp2
  go_loopw [10] (fun i wr => ∃ (j : Nat) (U1 U2 V1 V2 : List Trn), j ≤ pk ∧ i = .int .i64 j ∧ Hid (U = U1 ++ U2 ∧ V = V1 ++ V2 ∧ U1.length = j ∧ V1.length = j) ∧ Hid (RowC wr D off (P ++ (V1 ++ (U2 ++ (M ++ (U1 ++ (V2 ++ S))))))) ∧ Hid (GW D w wr)) (fun i _ => (pk - intOf i).toNat)
  case atStart => exact ⟨0, [], U, [], V, Nat.zero_le _, rfl, ⟨rfl, rfl, rfl, rfl⟩, HR, GW.refl D w⟩
  case round =>
    obtain ⟨j, U1, U2, V1, V2, hj, rfl, HU, HR', HG⟩ := hrel
    by_cases hlt : j < pk
    · have hlti : (j : Int) < (pk : Int) := by omega
      rcases U2 with _ | ⟨x, U2⟩
      · exact absurd hlt (by have h1 := HU.out; have h2 := HPK.out; rw [h1.1, List.append_nil] at h2; omega)
      rcases V2 with _ | ⟨y, V2⟩
      · exact absurd hlt (by have h1 := HU.out; have h2 := HPK.out; have h3 := HVL.out; rw [h1.2.1, List.append_nil] at h3; omega)
      have HS := Lib.hid (swr_step (P := P) (U1 := U1) (U2 := U2) (M := M) (V1 := V1) (V2 := V2) (S := S) (x := x) (y := y) (a := pa) (b := pb) (j := j) (k := pk) HPA.out (by have h1 := HU.out; have h2 := HPK.out; rw [h1.1] at h2; simp at h2; omega) (by have h1 := HU.out; omega) (by have h1 := HU.out; omega) HPB.out)
      obtain ⟨x0, x1, x2, x3⟩ := HR'.out.at HS.out.1
      obtain ⟨y0, y1, y2, y3⟩ := HR'.out.at HS.out.2.1
      have fz := HR'.out.2.1
      go_wp2
      go_region
      go_wp2
      go_roundw
      case rel =>
        refine ⟨j + 1, U1 ++ [x], U2, V1 ++ [y], V2, by omega, by go_num, ?_, ?_, ?_⟩
        · have h1 := HU.out
          refine Lib.hid ⟨by rw [h1.1]; simp, by rw [h1.2.1]; simp, by simp; omega, by simp; omega⟩
        · have := HR'.out.swap HS.out.1 HS.out.2.1
          rw [HS.out.2.2] at this
          exact this
        · exact HG.out.swap _ _ x y
      case measure => simp [intOf]; omega
    · have h1 := HU.out
      have hz : U2 = [] ∧ V2 = [] := by
        have h2 := HPK.out
        have h3 := HVL.out
        rw [h1.1, List.length_append] at h2
        rw [h1.2.1, h1.1, List.length_append, List.length_append] at h3
        exact ⟨List.length_eq_zero_iff.1 (by omega), List.length_eq_zero_iff.1 (by omega)⟩
      obtain ⟨rfl, rfl⟩ := hz
      have HF : Hid (RowC wr D off (P ++ (V ++ (M ++ (U ++ S))))) := by
        have h2 := HR'.out
        show RowC wr D off (P ++ (V ++ (M ++ (U ++ S))))
        rw [h1.1, h1.2.1]
        simpa using h2
      clear h1
      go_wp2
      go_end0
      exact ⟨rfl, HF.out, HG.out⟩
set_option maxHeartbeats 4000000 in
set_option maxRecDepth 100000 in
theorem rotate_any (D off n cap : Nat) (P U V S : List Trn) (a m b : Int) (f : Value) (w : World) (h : RowC w D off (P ++ (U ++ (V ++ S)))) (hn : n = (P ++ (U ++ (V ++ S))).length) (ha : a = (P.length : Int)) (hm : m = (P.length : Int) + U.length) (hb : b = (P.length : Int) + U.length + V.length) (hU : 0 < U.length) (hV : 0 < V.length) (hn8 : n ≤ 100000) :
    Calls Tryz.prog 180 #[.slice (some ⟨D, off, none⟩) n cap, .int .i64 a, .int .i64 m, .int .i64 b, f] w fun e w' => e = .returned (.tuple #[]) ∧ RowC w' D off (P ++ (V ++ (U ++ S))) ∧ GW D w w' := by
  obtain ⟨pa, hpa⟩ : ∃ pa : Nat, pa = P.length := ⟨_, rfl⟩
  obtain ⟨pi, hpi⟩ : ∃ pi : Nat, pi = U.length := ⟨_, rfl⟩
  obtain ⟨pj, hpj⟩ : ∃ pj : Nat, pj = V.length := ⟨_, rfl⟩
  obtain ⟨m0, hm0⟩ : ∃ m0 : Nat, m0 = pa + pi := ⟨_, rfl⟩
  obtain ⟨b0, hb0⟩ : ∃ b0 : Nat, b0 = m0 + pj := ⟨_, rfl⟩
  have ea : a = (pa : Int) := by omega
  have em : m = (m0 : Int) := by omega
  have eb : b = (b0 : Int) := by omega
  have hbn : b0 ≤ n := by rw [hn]; simp only [List.length_append]; omega
  subst ea em eb
  have e1 : (m0 : Int) - (pa : Int) = (pi : Int) := by omega
  have e2 : (b0 : Int) - (m0 : Int) = (pj : Int) := by omega
  have HN := Lib.hid hn
  have H0 : Hid (∃ X U' V' Y : List Trn, U'.length = pi ∧ V'.length = pj ∧ V ++ U = X ++ ((V' ++ U') ++ Y) ∧ P.length + X.length + U'.length = m0 ∧ RowC w D off ((P ++ X) ++ (U' ++ (V' ++ (Y ++ S))))) :=
    ⟨[], U, V, [], hpi.symm, hpj.symm, by simp, by simp; omega, by simpa using h⟩
  have hp1 : 0 < pi := by omega
  have hp2 : 0 < pj := by omega
  have hi8 : pi ≤ m0 := by omega
  have hj8 : m0 + pj ≤ n := by omega
  clear h hn ha hm hb hpa hpi hpj hU hV hm0 hb0 hbn
  go_enter Tryz.func180, Tryz.ntmps180
  go_wp2
  clear e1 e2
  go_loopw [10, 11] (fun i j wr => ∃ (i' j' : Nat), 0 < i' ∧ 0 < j' ∧ i' ≤ m0 ∧ m0 + j' ≤ n ∧ i = .int .i64 i' ∧ j = .int .i64 j' ∧ Hid (∃ X U' V' Y : List Trn, U'.length = i' ∧ V'.length = j' ∧ V ++ U = X ++ ((V' ++ U') ++ Y) ∧ P.length + X.length + U'.length = m0 ∧ RowC wr D off ((P ++ X) ++ (U' ++ (V' ++ (Y ++ S))))) ∧ Hid (GW D w wr)) (fun i j _ => (intOf i + intOf j).toNat)
  case atStart => exact ⟨pi, pj, hp1, hp2, hi8, hj8, rfl, rfl, H0, GW.refl D w⟩
  case round =>
    obtain ⟨i', j', hi0, hj0, hi8, hj8, rfl, rfl, HX, HG⟩ := hrel
    clear H0
    obtain ⟨X, U', V', Y, q1, q2, q3, q4, q5⟩ := HX.out
    have Q3 := Lib.hid q3
    have Q5 := Lib.hid q5
    have hnl : n = ((P ++ X) ++ (U' ++ (V' ++ (Y ++ S)))).length := by
      have h3 := congrArg List.length q3
      have h4 := HN.out
      simp only [List.length_append] at h3 h4 ⊢
      omega
    have HNL := Lib.hid hnl
    have q6 : (P ++ X).length + U'.length = m0 := by rw [List.length_append]; omega
    have q7 : ((P ++ X).length : Int) = (m0 : Int) - (i' : Int) := by omega
    have Q1 := Lib.hid q1
    have Q2 := Lib.hid q2
    have Q6 := Lib.hid q6
    have Q7 := Lib.hid q7
    clear q1 q2 q3 q4 q5 hnl q6 q7
    by_cases hne : i' = j'
    · subst hne
      go_wp2_with fail
      refine (swapRange_any D off n cap (P ++ X) U' [] V' (Y ++ S) _ _ _ f wr Q5.out HNL.out Q7.out.symm (by have := Q1.out; omega) (by have := Q1.out; have := Q2.out; omega) (by have := Q6.out; rw [List.length_nil]; omega) hn8).mono ?_
      rintro e w' ⟨rfl, hr, hg⟩
      have HR := Lib.hid hr
      have HG2 := Lib.hid (HG.out.trans hg)
      clear hr hg
      go_wp2
      go_end0
      refine ⟨rfl, ?_, HG2.out⟩
      have hr := HR.out
      have h3 : V ++ (U ++ S) = X ++ (V' ++ (U' ++ (Y ++ S))) := by rw [← List.append_assoc, Q3.out]; simp
      rw [h3]
      simpa using hr
    · have hne' : ((i' : Int) == (j' : Int)) = false := by rw [beq_eq_false_iff_ne]; omega
      by_cases hgt : j' < i'
      · have hgti : (j' : Int) < (i' : Int) := by omega
        obtain ⟨U1, U2, rfl, hU1⟩ : ∃ U1 U2, U' = U1 ++ U2 ∧ U1.length = j' := ⟨U'.take j', U'.drop j', (List.take_append_drop _ _).symm, by rw [List.length_take]; have := Q1.out; omega⟩
        have HU1 := Lib.hid hU1
        have HU2 : Hid (U2.length = i' - j') := by
          show _ = _
          have := Q1.out
          rw [List.length_append] at this
          omega
        have Q5' : Hid (RowC wr D off ((P ++ X) ++ (U1 ++ (U2 ++ (V' ++ (Y ++ S)))))) := by
          have := Q5.out
          rw [List.append_assoc U1 U2] at this
          exact this
        have HNL' : Hid (n = ((P ++ X) ++ (U1 ++ (U2 ++ (V' ++ (Y ++ S))))).length) := by
          have := HNL.out
          rw [List.append_assoc U1 U2] at this
          exact this
        obtain ⟨d, hd⟩ : ∃ d : Nat, d = i' - j' := ⟨_, rfl⟩
        have hdi : (i' : Int) - (j' : Int) = (d : Int) := by omega
        have HD := Lib.hid hd
        have hd0 : 0 < d := by omega
        have hd8 : d ≤ m0 := by omega
        clear hU1 hd hne
        go_wp2_with fail
        refine (swapRange_any D off n cap (P ++ X) U1 U2 V' (Y ++ S) _ _ _ f wr Q5'.out HNL'.out Q7.out.symm (by have := HU1.out; omega) (by have := HU1.out; have := Q2.out; omega) (by have h6 := Q6.out; have h1 := HU1.out; have h2 := HU2.out; have h3 : (U1 ++ U2).length = U1.length + U2.length := List.length_append; omega) hn8).mono ?_
        rintro e w' ⟨rfl, hr, hg⟩
        have HR := Lib.hid hr
        have HG2 := Lib.hid (HG.out.trans hg)
        clear hr hg
        go_wp2
        go_roundw
        case rel =>
          refine ⟨d, j', hd0, hj0, hd8, hj8, rfl, rfl, ⟨X ++ V', U2, U1, Y, by have := HU2.out; have := HD.out; omega, HU1.out, ?_, ?_, ?_⟩, HG2⟩
          · rw [Q3.out]; simp
          · have h1 := HU1.out; have h2 := Q2.out; have h3 := Q6.out; simp only [List.length_append] at h3 ⊢; omega
          · have := HR.out; simpa using this
        case measure => simp [intOf]; have := HD.out; omega
      · have hgti : ¬ (j' : Int) < (i' : Int) := by omega
        obtain ⟨d, hd⟩ : ∃ d : Nat, d = j' - i' := ⟨_, rfl⟩
        have hdi : (j' : Int) - (i' : Int) = (d : Int) := by omega
        obtain ⟨V1, V2, rfl, hV1⟩ : ∃ V1 V2, V' = V1 ++ V2 ∧ V1.length = d := ⟨V'.take d, V'.drop d, (List.take_append_drop _ _).symm, by rw [List.length_take]; have := Q2.out; omega⟩
        have HV1 := Lib.hid hV1
        have HV2 : Hid (V2.length = i') := by
          show _ = _
          have := Q2.out
          rw [List.length_append] at this
          omega
        have Q5' : Hid (RowC wr D off ((P ++ X) ++ (U' ++ (V1 ++ (V2 ++ (Y ++ S)))))) := by
          have := Q5.out
          rw [List.append_assoc V1 V2] at this
          exact this
        have HNL' : Hid (n = ((P ++ X) ++ (U' ++ (V1 ++ (V2 ++ (Y ++ S))))).length) := by
          have := HNL.out
          rw [List.append_assoc V1 V2] at this
          exact this
        have HD := Lib.hid hd
        have hd0 : 0 < d := by omega
        have hd8 : m0 + d ≤ n := by omega
        clear hV1 hd hne
        go_wp2_with fail
        refine (swapRange_any D off n cap (P ++ X) U' V1 V2 (Y ++ S) _ _ _ f wr Q5'.out HNL'.out Q7.out.symm (by have := Q1.out; omega) (by have := HV2.out; have := Q1.out; omega) (by have := Q6.out; have := HV1.out; have := Q1.out; have := HD.out; omega) hn8).mono ?_
        rintro e w' ⟨rfl, hr, hg⟩
        have HR := Lib.hid hr
        have HG2 := Lib.hid (HG.out.trans hg)
        clear hr hg
        go_wp2
        go_roundw
        case rel =>
          refine ⟨i', d, hi0, hd0, hi8, hd8, rfl, rfl, ⟨X, V2, V1, U' ++ Y, HV2.out, HV1.out, ?_, ?_, ?_⟩, HG2⟩
          · rw [Q3.out]; simp
          · have h1 := HV2.out; have h2 := Q1.out; have h3 := Q6.out; simp only [List.length_append] at h3 ⊢; omega
          · have := HR.out; simpa using this
        case measure => simp [intOf]; have := HD.out; omega
end Go.Proofs.YtbikdlcjbigafaaGreatDoor
namespace Go.Proofs.YtbikdlcjbigafaaGreatDoor
set_option linter.unusedVariables false
set_option linter.unusedSimpArgs false
open Go.ChangeShapes Go.WideShapes Go.ChangeAt Go.RowKit

/-- what a turn tells lies within bounds. -/
def NoB (l : List Trn) : Prop := ∀ x ∈ l, -2250000000 ≤ x.no ∧ x.no ≤ 4150000000
set_option maxHeartbeats 1000000 in
theorem less_any (a b : Trn) (w : World) (ha : -2250000000 ≤ a.no ∧ a.no ≤ 4150000000) (hb : -2250000000 ≤ b.no ∧ b.no ≤ 4150000000) :
    Calls Tryz.prog 71 #[.agg #[.int .i64 a.no, .int .i64 a.tg, .int .i64 a.r.sv, .string a.r.lt], .agg #[.int .i64 b.no, .int .i64 b.tg, .int .i64 b.r.sv, .string b.r.lt]] w fun e w' => e = .returned (.int .i64 (a.no - b.no)) ∧ Below w.heap.size w w' := by
  obtain ⟨h1, h2⟩ := ha
  obtain ⟨h3, h4⟩ := hb
  go_enter Tryz.func71, Tryz.ntmps71
  go_wp2
  go_ret
  exact ⟨rfl, ((Below.refl _ _).alloc (Nat.le_refl _) _).alloc (by simp) _⟩
theorem less_enters (args : Array Value) (w : World) : (callFunc 71 args).run Tryz.prog w = .ok (.enter 71 args) w := enters_of Tryz.func71 (by kernel_rfl) rfl args w
theorem GW.drewN {D : Nat} {w w1 : World} (h : GW D w w1) (q : Nat) : GW D w (w1.drewN q) := ⟨h.os, h.tape, h.output, h.size, h.block⟩
theorem RowC.drewN {w : World} {D off : Nat} {l : List Trn} (h : RowC w D off l) (q : Nat) : RowC (w.drewN q) D off l := h
theorem GW.in {D : Nat} {w w1 w2 : World} (h : GW D w w1) (g : Below w1.heap.size w1 w2) : GW D w w2 := h.below g
theorem ins_step {U1 : List Trn} {x : Trn} {q r : List Trn} (hq : q ++ r = so U1) (hL : ∀ y ∈ r, tLt x y) (hT : ∀ y ∈ U1, y.tg < x.tg) (hTd : Td U1) (hl : q = [] ∨ ∃ q' y, q = q' ++ [y] ∧ ¬ x.no < y.no) : so (U1 ++ [x]) = q ++ x :: r := by
  have hs : Sd (q ++ r) := by rw [hq]; exact so_sd hTd
  obtain ⟨s1, s2, s3⟩ := sd_app.1 hs
  have hm : ∀ y ∈ q ++ r, y.tg < x.tg := fun y hy => hT y ((so_perm U1).subset (by rw [← hq]; exact hy))
  have hqx : ∀ y ∈ q, tLt y x := by
    rcases hl with rfl | ⟨q', z, rfl, hz⟩
    · intro y hy; cases hy
    · intro y hy
      have hzx : tLt z x := (nlt_key (hm z (by simp))).2 hz
      rcases List.mem_append.1 hy with h | h
      · exact tLt_trans ((sd_app.1 s1).2.2 y h z (by simp)) hzx
      · obtain rfl := List.mem_singleton.1 h
        exact hzx
  refine so_eq ?_ ?_
  · have p1 : (U1 ++ [x]).Perm ((q ++ r) ++ [x]) := List.Perm.append_right [x] (by rw [hq]; exact (so_perm U1).symm)
    refine p1.trans ?_
    rw [List.append_assoc]
    exact List.Perm.append_left q List.perm_append_comm
  · exact sd_app.2 ⟨s1, List.pairwise_cons.2 ⟨hL, s2⟩, fun a ha b hb => by
      rcases List.mem_cons.1 hb with rfl | hb
      · exact hqx a ha
      · exact s3 a ha b hb⟩
set_option maxHeartbeats 4000000 in
set_option maxRecDepth 100000 in
theorem insSort_any (D off n cap : Nat) (P U S : List Trn) (a b : Int) (w : World) (h : RowC w D off (P ++ (U ++ S))) (hn : n = (P ++ (U ++ S)).length) (ha : a = (P.length : Int)) (hb : b = (P.length : Int) + U.length) (hT : Tg U) (hB : NoB U) (hn8 : n ≤ 100000) :
    Calls Tryz.prog 153 #[.slice (some ⟨D, off, none⟩) n cap, .int .i64 a, .int .i64 b, .func (.func 71) #[] #[]] w fun e w' => e = .returned (.tuple #[]) ∧ RowC w' D off (P ++ (so U ++ S)) ∧ GW D w w' := by
  have eg := less_enters
  obtain ⟨pa, hpa⟩ : ∃ pa : Nat, pa = P.length := ⟨_, rfl⟩
  obtain ⟨pb, hpb⟩ : ∃ pb : Nat, pb = pa + U.length := ⟨_, rfl⟩
  have ea : a = (pa : Int) := by omega
  have eb : b = (pb : Int) := by omega
  have hbn : pb ≤ n := by rw [hn]; simp only [List.length_append]; omega
  subst ea eb
  have HPA := Lib.hid hpa
  have HPB := Lib.hid hpb
  have HN := Lib.hid hn
  have HT := Lib.hid hT
  have HB := Lib.hid hB
  have HR := Lib.hid h
  clear h hn ha hb hpa hT hB
  have H0 : Hid (∃ U1 U2, U = U1 ++ U2 ∧ U1.length = min 1 U.length ∧ RowC w D off (P ++ (so U1 ++ (U2 ++ S)))) := by
    rcases U with _ | ⟨x, U'⟩
    · exact ⟨[], [], rfl, by simp, by have := HR.out; simpa [so_self (show Sd [] from List.Pairwise.nil)] using this⟩
    · exact ⟨[x], U', rfl, by simp, by have := HR.out; simpa [so_self (show Sd [x] from List.pairwise_singleton _ _)] using this⟩
  have HUl : Hid (U.length = pb - pa) := by show _ = _; omega
  have hab : pa ≤ pb := by omega
  clear hpb HR
  go_enter Tryz.func153, Tryz.ntmps153
  go_wp2
  go_loopw [8, 9] (fun i _ wr => ∃ k : Nat, 1 ≤ k ∧ pa + k ≤ pb + 1 ∧ i = .int .i64 ((pa + k : Nat) : Int) ∧ Hid (∃ U1 U2, U = U1 ++ U2 ∧ U1.length = min k U.length ∧ RowC wr D off (P ++ (so U1 ++ (U2 ++ S)))) ∧ Hid (GW D w wr)) (fun i _ _ => (pb - intOf i).toNat)
  case atStart => exact ⟨1, Nat.le_refl _, by omega, by first | rfl | go_num, H0, GW.refl D w⟩
  case round =>
    obtain ⟨k, hk1, hk2, rfl, HX, HG⟩ := hrel
    clear H0
    obtain ⟨i, hi⟩ : ∃ i : Nat, i = pa + k := ⟨_, rfl⟩
    rw [← hi] at hk2 ⊢
    have HI := Lib.hid hi
    have hi2 : pa + 1 ≤ i := by omega
    clear hi hk1
    by_cases hlt : i < pb
    · have hlti : (i : Int) < (pb : Int) := by omega
      obtain ⟨U1, U2, e1, e2, hr1⟩ := HX.out
      have e2' : U1.length = i - pa := by have h1 := HI.out; have h2 := HUl.out; omega
      rcases U2 with _ | ⟨x, U2⟩
      · exact absurd hlt (by rw [e1, List.append_nil] at HUl; have h2 := HUl.out; omega)
      have E1 := Lib.hid e1
      have E2 := Lib.hid e2'
      have hTd : Td U1 := by
        have := HT.out
        rw [e1] at this
        exact Tg.td (List.pairwise_append.1 this).1
      have hTx : ∀ y ∈ U1, y.tg < x.tg := by
        have := HT.out
        rw [e1] at this
        exact fun y hy => (List.pairwise_append.1 this).2.2 y hy x (by simp)
      have hBx : -2250000000 ≤ x.no ∧ x.no ≤ 4150000000 := HB.out x (by rw [e1]; simp)
      have hBq : ∀ y ∈ so U1, -2250000000 ≤ y.no ∧ y.no ≤ 4150000000 := fun y hy => HB.out y (by rw [e1]; exact List.mem_append_left _ ((so_perm U1).subset hy))
      have HTD := Lib.hid hTd
      have HTX := Lib.hid hTx
      have HBX := Lib.hid hBx
      have HBQ := Lib.hid hBq
      have H1 : Hid (∃ q r, q ++ r = so U1 ∧ (∀ y ∈ r, tLt x y) ∧ pa + q.length = i ∧ RowC wr D off (P ++ (q ++ (x :: r ++ (U2 ++ S))))) :=
        ⟨so U1, [], by simp, fun _ h => (by cases h), by rw [so_len]; omega, by simpa using hr1⟩
      clear e1 e2 hr1 e2' hTd hTx hBx hBq HX
      obtain ⟨wo, rfl⟩ : ∃ wo : World, wo = wr := ⟨_, rfl⟩
      go_wp2
      go_loopw [9] (fun j wr => ∃ j' : Nat, pa ≤ j' ∧ j' ≤ i ∧ j = .int .i64 j' ∧ Hid (∃ q r, q ++ r = so U1 ∧ (∀ y ∈ r, tLt x y) ∧ pa + q.length = j' ∧ RowC wr D off (P ++ (q ++ (x :: r ++ (U2 ++ S))))) ∧ Hid (GW D w wr)) (fun j _ => (intOf j).toNat)
      case atStart => exact ⟨i, by omega, Nat.le_refl _, rfl, H1, HG⟩
      case round =>
        obtain ⟨j, hj1, hj2, rfl, HJ, HGj⟩ := hrel
        clear H1
        obtain ⟨q, r, q1, q2, q3, q4⟩ := HJ.out
        have Q1 := Lib.hid q1
        have Q2 := Lib.hid q2
        have Q3 := Lib.hid q3
        have Q4 := Lib.hid q4
        have HSP : Hid (so U1 = q ++ r) := q1.symm
        have hx? : (P ++ (q ++ (x :: r ++ (U2 ++ S))))[j]? = some x := by
          rw [← List.append_assoc, List.getElem?_append_right (by rw [List.length_append]; have := HPA.out; omega)]
          have : j - (P ++ q).length = 0 := by rw [List.length_append]; have := HPA.out; omega
          rw [this]
          rfl
        obtain ⟨x0, x1, x2, x3⟩ := q4.at hx?
        have HXq := Lib.hid hx?
        clear q1 q2 q3 q4 hx?
        by_cases hq : j = pa
        · have hd : decide (pa < j) = false := by rw [decide_eq_false_iff_not]; omega
          have hq0 : q = [] := List.length_eq_zero_iff.1 (by have := Q3.out; omega)
          have HQ0 := Lib.hid hq0
          clear hq hq0 x0 x1 x2 x3
          go_wp2
          go_quiet (fail)
          go_wp2
          go_roundw
          case rel =>
            refine ⟨k + 1, by omega, by have := HI.out; omega, by have := HI.out; subst this; go_num, ⟨U1 ++ [x], U2, by rw [E1.out]; simp, ?_, ?_⟩, HGj.out.drewN _⟩
            · rw [List.length_append, List.length_singleton]; have h1 := E2.out; have h2 := HI.out; have h3 := HUl.out; omega
            · rw [ins_step Q1.out Q2.out HTX.out HTD.out (.inl HQ0.out)]
              have := Q4.out.drewN nq
              simpa using this
          case measure => simp [intOf]; omega
        · obtain ⟨q', y, hq'⟩ : ∃ q' y, q = q' ++ [y] := by
            rcases List.eq_nil_or_concat q with e | ⟨q', y, e⟩
            · exact absurd (by rw [e] at Q3; exact Q3.out.symm) hq
            · exact ⟨q', y, by rw [e, List.concat_eq_append]⟩
          subst hq'
          have hjp : pa < j := by omega
          have hy? : (P ++ (q' ++ [y] ++ (x :: r ++ (U2 ++ S))))[j - 1]? = some y := by
            have e : P ++ (q' ++ [y] ++ (x :: r ++ (U2 ++ S))) = (P ++ q') ++ y :: (x :: r ++ (U2 ++ S)) := by simp
            have e2 : j - 1 = (P ++ q').length := by have h1 := Q3.out; have h2 := HPA.out; simp only [List.length_append, List.length_singleton] at h1 ⊢; omega
            rw [e, e2]
            simp
          obtain ⟨y0, y1, y2, y3⟩ := Q4.out.at hy?
          have HYq := Lib.hid hy?
          have HJP := Lib.hid hjp
          have HBy := Lib.hid (HBQ.out y (by rw [← Q1.out]; simp))
          have hd : decide (pa < j) = true := by rw [decide_eq_true_iff]; omega
          have hj0 : (1 : Int) ≤ (j : Int) := by omega
          have hjn : (j : Int) < (n : Int) := by omega
          have t1 : IntKind.i64.wrap ((j : Int) - 1) = (j : Int) - 1 := IntWalk.i64_in _ (by omega)
          have t2 : (0 : Int) ≤ (j : Int) - 1 := by omega
          have t3 : (j : Int) - 1 < (n : Int) := by omega
          have t4 : ((j : Int) - 1).toNat = j - 1 := by omega
          have HL := Lib.hid (fun w' => less_any x y w' HBX.out HBy.out)
          clear hy? hq hjp
          by_cases hlt2 : x.no < y.no
          · have hl2 : decide (x.no - y.no < 0) = true := by rw [decide_eq_true_iff]; omega
            go_wp2
            go_region_held3 (fun w' => w'.cell? ⟨D, off + j * 4, none⟩ = some (.int .i64 x.no) ∧ w'.cell? ⟨D, off + j * 4 + 1, none⟩ = some (.int .i64 x.tg) ∧ w'.cell? ⟨D, off + j * 4 + 2, none⟩ = some (.int .i64 x.r.sv) ∧ w'.cell? ⟨D, off + j * 4 + 3, none⟩ = some (.string x.r.lt) ∧ w'.cell? ⟨D, off + (j - 1) * 4, none⟩ = some (.int .i64 y.no) ∧ w'.cell? ⟨D, off + (j - 1) * 4 + 1, none⟩ = some (.int .i64 y.tg) ∧ w'.cell? ⟨D, off + (j - 1) * 4 + 2, none⟩ = some (.int .i64 y.r.sv) ∧ w'.cell? ⟨D, off + (j - 1) * 4 + 3, none⟩ = some (.string y.r.lt)) (first | (with_reducible exact ⟨x0, x1, x2, x3, y0, y1, y2, y3⟩) | (with_reducible exact ⟨s0, s1, s2, s3, r0, r1, r2, r3⟩) | go_keep) ((go_at_call 71; refine (HL.out _).mono ?_; rintro e w9 ⟨rfl, hb9⟩; have R9 := Lib.hid (Q4.out.drew.below hb9); obtain ⟨s0, s1, s2, s3⟩ := R9.out.at HXq.out; obtain ⟨r0, r1, r2, r3⟩ := R9.out.at HYq.out; have G9 := Lib.hid (HGj.out.drew.below hb9); clear hb9))
            clear x0 x1 x2 x3 y0 y1 y2 y3
            have fz := R9.out.2.1
            go_wp2
            go_region
            go_wp2
            go_roundw
            case rel =>
              refine ⟨j - 1, by have := HJP.out; omega, by omega, by rw [show ((j - 1 : Nat) : Int) = (j : Int) - 1 by omega], ⟨q', y :: r, by rw [← Q1.out]; simp, ?_, ?_, ?_⟩, G9.out.swap _ _ x y⟩
              · intro z hz
                rcases List.mem_cons.1 hz with rfl | hz
                · exact .inl hlt2
                · exact Q2.out z hz
              · have := Q3.out; rw [List.length_append, List.length_singleton] at this; omega
              · have h1 := R9.out.swap HXq.out HYq.out
                have e : P ++ (q' ++ [y] ++ (x :: r ++ (U2 ++ S))) = (P ++ q') ++ y :: x :: (r ++ (U2 ++ S)) := by simp
                have e2 : j - 1 = (P ++ q').length := by have h1 := Q3.out; have h2 := HPA.out; simp only [List.length_append, List.length_singleton] at h1 ⊢; omega
                have e3 : j = (P ++ q').length + 1 := by omega
                have e4 : swp (P ++ (q' ++ [y] ++ (x :: r ++ (U2 ++ S)))) j (j - 1) = P ++ (q' ++ (x :: (y :: r) ++ (U2 ++ S))) := by
                  rw [swp_sym, e, e2, e3, swp_adj]
                  simp
                rw [e4] at h1
                exact h1
            case measure => simp [intOf]; omega
          · have hl2 : decide (x.no - y.no < 0) = false := by rw [decide_eq_false_iff_not]; omega
            go_wp2
            go_region_held3 (fun w' => w'.cell? ⟨D, off + j * 4, none⟩ = some (.int .i64 x.no) ∧ w'.cell? ⟨D, off + j * 4 + 1, none⟩ = some (.int .i64 x.tg) ∧ w'.cell? ⟨D, off + j * 4 + 2, none⟩ = some (.int .i64 x.r.sv) ∧ w'.cell? ⟨D, off + j * 4 + 3, none⟩ = some (.string x.r.lt) ∧ w'.cell? ⟨D, off + (j - 1) * 4, none⟩ = some (.int .i64 y.no) ∧ w'.cell? ⟨D, off + (j - 1) * 4 + 1, none⟩ = some (.int .i64 y.tg) ∧ w'.cell? ⟨D, off + (j - 1) * 4 + 2, none⟩ = some (.int .i64 y.r.sv) ∧ w'.cell? ⟨D, off + (j - 1) * 4 + 3, none⟩ = some (.string y.r.lt)) (first | (with_reducible exact ⟨x0, x1, x2, x3, y0, y1, y2, y3⟩) | (with_reducible exact ⟨s0, s1, s2, s3, r0, r1, r2, r3⟩) | go_keep) ((go_at_call 71; refine (HL.out _).mono ?_; rintro e w9 ⟨rfl, hb9⟩; have R9 := Lib.hid (Q4.out.drew.below hb9); obtain ⟨s0, s1, s2, s3⟩ := R9.out.at HXq.out; obtain ⟨r0, r1, r2, r3⟩ := R9.out.at HYq.out; have G9 := Lib.hid (HGj.out.drew.below hb9); clear hb9))
            clear x0 x1 x2 x3 y0 y1 y2 y3
            go_wp2
            go_roundw
            case rel =>
              refine ⟨k + 1, by omega, by have := HI.out; omega, by have := HI.out; subst this; go_num, ⟨U1 ++ [x], U2, by rw [E1.out]; simp, ?_, ?_⟩, G9.out⟩
              · rw [List.length_append, List.length_singleton]; have h1 := E2.out; have h2 := HI.out; have h3 := HUl.out; omega
              · rw [ins_step Q1.out Q2.out HTX.out HTD.out (.inr ⟨q', y, rfl, by omega⟩)]
                have := R9.out
                simpa using this
            case measure => simp [intOf]; omega
    · have hge : ¬ (i : Int) < (pb : Int) := by omega
      obtain ⟨U1, U2, e1, e2, hr1⟩ := HX.out
      have hz : U2 = [] := by
        have h1 := HI.out
        have h2 := HUl.out
        have h3 := congrArg List.length e1
        rw [List.length_append] at h3
        exact List.length_eq_zero_iff.1 (by omega)
      subst hz
      rw [List.append_nil] at e1
      subst e1
      have HF := Lib.hid hr1
      clear e2 hr1 HX
      go_wp2
      go_end0
      exact ⟨rfl, HF.out, HG.out⟩
end Go.Proofs.YtbikdlcjbigafaaGreatDoor
namespace Go.Proofs.YtbikdlcjbigafaaGreatDoor
set_option linter.unusedVariables false
set_option linter.unusedSimpArgs false
open Go.ChangeShapes Go.WideShapes Go.ChangeAt Go.RowKit

/-- where a turn belongs among turns in order. -/
theorem so_into {V1 V2 : List Trn} {u : Trn} (hV : Sd (V1 ++ V2)) (h1 : ∀ y ∈ V1, tLt y u) (h2 : ∀ y ∈ V2, tLt u y) : so (u :: (V1 ++ V2)) = V1 ++ u :: V2 := by
  obtain ⟨s1, s2, s3⟩ := sd_app.1 hV
  refine so_eq ?_ (sd_app.2 ⟨s1, List.pairwise_cons.2 ⟨h2, s2⟩, fun a ha b hb => ?_⟩)
  · exact (List.perm_middle (a := u) (l₁ := V1) (l₂ := V2)).symm
  · rcases List.mem_cons.1 hb with rfl | hb
    · exact h1 a ha
    · exact s3 a ha b hb
theorem mid_bd {i j : Nat} (h : i < j) : ∃ m : Nat, ((i : Int) + (j : Int)) / 2 = (m : Int) ∧ i ≤ m ∧ m < j := ⟨(i + j) / 2, by omega, by omega, by omega⟩
theorem sd_le {V : List Trn} (hV : Sd V) {i k : Nat} (hk : k < V.length) (hi : i ≤ k) {u : Trn} (h : tLt V[k] u) : tLt (V[i]'(by omega)) u := by
  rcases Nat.lt_or_ge i k with hlt | hge
  · exact tLt_trans (List.pairwise_iff_getElem.1 hV i k (by omega) hk hlt) h
  · obtain rfl : i = k := by omega
    exact h
theorem sd_ge {V : List Trn} (hV : Sd V) {i k : Nat} (hi : i < V.length) (hk : k ≤ i) {u : Trn} (h : tLt u (V[k]'(by omega))) : tLt u V[i] := by
  rcases Nat.lt_or_ge k i with hlt | hge
  · exact tLt_trans h (List.pairwise_iff_getElem.1 hV k i (by omega) hi hlt)
  · obtain rfl : i = k := by omega
    exact h
/-- a list, parted by what a search has found. -/
theorem part_at {V : List Trn} {u : Trn} {k : Nat} (hk : k ≤ V.length) (h1 : ∀ i (h : i < V.length), i < k → tLt V[i] u) (h2 : ∀ i (h : i < V.length), k ≤ i → tLt u V[i]) : ∃ V1 V2, V = V1 ++ V2 ∧ V1.length = k ∧ (∀ y ∈ V1, tLt y u) ∧ ∀ y ∈ V2, tLt u y := by
  refine ⟨V.take k, V.drop k, (List.take_append_drop _ _).symm, by rw [List.length_take]; omega, fun y hy => ?_, fun y hy => ?_⟩
  · obtain ⟨i, hi, rfl⟩ := List.mem_iff_getElem.1 hy
    rw [List.length_take] at hi
    rw [List.getElem_take]
    exact h1 i (by omega) (by omega)
  · obtain ⟨i, hi, rfl⟩ := List.mem_iff_getElem.1 hy
    rw [List.length_drop] at hi
    rw [List.getElem_drop]
    exact h2 (k + i) (by omega) (by omega)
set_option maxHeartbeats 4000000 in
set_option maxRecDepth 100000 in
theorem sym_left (D off n cap : Nat) (P V S : List Trn) (u : Trn) (a m b : Int) (w : World) (h : RowC w D off (P ++ (u :: V ++ S))) (hn : n = (P ++ (u :: V ++ S)).length) (ha : a = (P.length : Int)) (hm : m = (P.length : Int) + 1) (hb : b = (P.length : Int) + 1 + V.length) (hV : Sd V) (hA : ∀ y ∈ V, u.tg < y.tg) (hB : NoB (u :: V)) (hn8 : n ≤ 100000) :
    Calls Tryz.prog 154 #[.slice (some ⟨D, off, none⟩) n cap, .int .i64 a, .int .i64 m, .int .i64 b, .func (.func 71) #[] #[]] w fun e w' => e = .returned (.tuple #[]) ∧ RowC w' D off (P ++ (so (u :: V) ++ S)) ∧ GW D w w' := by
  have eg := less_enters
  obtain ⟨pa, hpa⟩ : ∃ pa : Nat, pa = P.length := ⟨_, rfl⟩
  obtain ⟨pm, hpm⟩ : ∃ pm : Nat, pm = pa + 1 := ⟨_, rfl⟩
  obtain ⟨pb, hpb⟩ : ∃ pb : Nat, pb = pa + 1 + V.length := ⟨_, rfl⟩
  have ea : a = (pa : Int) := by omega
  have em : m = (pm : Int) := by omega
  have eb : b = (pb : Int) := by omega
  have hbn : pb ≤ n := by rw [hn]; simp only [List.length_append, List.length_cons]; omega
  have hmb : pm ≤ pb := by omega
  subst ea em eb
  have e1 : (pm : Int) - (pa : Int) = 1 := by omega
  have HPA := Lib.hid hpa
  have HPM := Lib.hid hpm
  have HPB := Lib.hid hpb
  have HN := Lib.hid hn
  have HV := Lib.hid hV
  have HA := Lib.hid hA
  have HB := Lib.hid hB
  have HR := Lib.hid h
  clear h hn ha hm hb hpa hpm hpb hV hA hB
  go_enter Tryz.func154, Tryz.ntmps154
  go_wp2
  go_loopw [10, 11, 12] (fun i j _ wr => ∃ i' j' : Nat, pm ≤ i' ∧ i' ≤ j' ∧ j' ≤ pb ∧ i = .int .i64 i' ∧ j = .int .i64 j' ∧ Hid (RowC wr D off (P ++ (u :: V ++ S))) ∧ Hid (GW D w wr) ∧ Hid (∀ k (h : k < V.length), k < i' - pm → tLt V[k] u) ∧ Hid (∀ k (h : k < V.length), j' - pm ≤ k → tLt u V[k])) (fun i j _ _ => (intOf j - intOf i).toNat)
  case atStart => exact ⟨pm, pb, Nat.le_refl _, hmb, Nat.le_refl _, rfl, rfl, HR, GW.refl D w, fun k h h1 => by omega, fun k h h1 => by have h2 := HPB.out; have h3 := HPM.out; omega⟩
  case round =>
    obtain ⟨i, j, hi, hij, hj, rfl, rfl, HR', HG, HLo, HHi⟩ := hrel
    by_cases hlt : i < j
    · have hlti : (i : Int) < (j : Int) := by omega
      obtain ⟨m, hm, hm1, hm2⟩ := mid_bd hlt
      have hmV : m - pm < V.length := by have h2 := HPB.out; have h3 := HPM.out; omega
      have HMV := Lib.hid hmV
      obtain ⟨x, hx⟩ : ∃ x, x = V[m - pm]'HMV.out := ⟨_, rfl⟩
      have hx? : (P ++ (u :: V ++ S))[m]? = some x := by
        have e : m = P.length + ((m - pm) + 1) := by have h2 := HPA.out; have h3 := HPM.out; omega
        rw [e, List.getElem?_append_right (by omega), Nat.add_sub_cancel_left, List.cons_append, List.getElem?_cons_succ, List.getElem?_append_left hmV, List.getElem?_eq_getElem hmV, ← hx]
      obtain ⟨y, hy⟩ : ∃ y, y = u := ⟨_, rfl⟩
      have hu? : (P ++ (u :: V ++ S))[pa]? = some y := by
        rw [HPA.out, hy]; simp
      have HY := Lib.hid hy
      have HX := Lib.hid hx
      have HXq := Lib.hid hx?
      have HYq := Lib.hid hu?
      have hxm : x ∈ V := by rw [hx]; exact List.getElem_mem _
      have HL := Lib.hid (fun w' => less_any x y w' (HB.out x (List.mem_cons_of_mem _ hxm)) (HB.out y (by rw [hy]; simp)))
      have hk := lt_key (HA.out x hxm)
      rw [← hy] at hk
      have HK := Lib.hid hk
      obtain ⟨x0, x1, x2, x3⟩ := HR'.out.at hx?
      obtain ⟨y0, y1, y2, y3⟩ := HR'.out.at hu?
      have hmn : (m : Int) < (n : Int) := by omega
      have hpn : (pa : Int) < (n : Int) := by have h3 := HPM.out; omega
      clear hx hx? hu? hxm hk hy hmV
      by_cases hc : x.no < y.no
      · have hl2 : decide (x.no - y.no < 0) = true := by rw [decide_eq_true_iff]; omega
        go_wp2
        go_region_held3 (fun w' => w'.cell? ⟨D, off + m * 4, none⟩ = some (.int .i64 x.no) ∧ w'.cell? ⟨D, off + m * 4 + 1, none⟩ = some (.int .i64 x.tg) ∧ w'.cell? ⟨D, off + m * 4 + 2, none⟩ = some (.int .i64 x.r.sv) ∧ w'.cell? ⟨D, off + m * 4 + 3, none⟩ = some (.string x.r.lt) ∧ w'.cell? ⟨D, off + pa * 4, none⟩ = some (.int .i64 y.no) ∧ w'.cell? ⟨D, off + pa * 4 + 1, none⟩ = some (.int .i64 y.tg) ∧ w'.cell? ⟨D, off + pa * 4 + 2, none⟩ = some (.int .i64 y.r.sv) ∧ w'.cell? ⟨D, off + pa * 4 + 3, none⟩ = some (.string y.r.lt)) (first | (with_reducible exact ⟨x0, x1, x2, x3, y0, y1, y2, y3⟩) | (with_reducible exact ⟨s0, s1, s2, s3, r0, r1, r2, r3⟩) | go_keep) ((go_at_call 71; refine (HL.out _).mono ?_; rintro e w9 ⟨rfl, hb9⟩; have R9 := Lib.hid (HR'.out.drew.below hb9); obtain ⟨s0, s1, s2, s3⟩ := R9.out.at HXq.out; obtain ⟨r0, r1, r2, r3⟩ := R9.out.at HYq.out; have G9 := Lib.hid (HG.out.drew.below hb9); clear hb9))
        clear x0 x1 x2 x3 y0 y1 y2 y3
        go_wp2
        go_roundw
        case rel =>
          refine ⟨m + 1, j, by omega, by omega, hj, by go_num, rfl, R9, G9, fun k h hk => ?_, HHi⟩
          have hx' : tLt (V[m - pm]'HMV.out) u := by
            have := HK.out.2 hc
            rw [HX.out, HY.out] at this
            exact this
          exact sd_le HV.out HMV.out (by omega) hx'
        case measure => simp [intOf]; omega
      · have hl2 : decide (x.no - y.no < 0) = false := by rw [decide_eq_false_iff_not]; omega
        go_wp2
        go_region_held3 (fun w' => w'.cell? ⟨D, off + m * 4, none⟩ = some (.int .i64 x.no) ∧ w'.cell? ⟨D, off + m * 4 + 1, none⟩ = some (.int .i64 x.tg) ∧ w'.cell? ⟨D, off + m * 4 + 2, none⟩ = some (.int .i64 x.r.sv) ∧ w'.cell? ⟨D, off + m * 4 + 3, none⟩ = some (.string x.r.lt) ∧ w'.cell? ⟨D, off + pa * 4, none⟩ = some (.int .i64 y.no) ∧ w'.cell? ⟨D, off + pa * 4 + 1, none⟩ = some (.int .i64 y.tg) ∧ w'.cell? ⟨D, off + pa * 4 + 2, none⟩ = some (.int .i64 y.r.sv) ∧ w'.cell? ⟨D, off + pa * 4 + 3, none⟩ = some (.string y.r.lt)) (first | (with_reducible exact ⟨x0, x1, x2, x3, y0, y1, y2, y3⟩) | (with_reducible exact ⟨s0, s1, s2, s3, r0, r1, r2, r3⟩) | go_keep) ((go_at_call 71; refine (HL.out _).mono ?_; rintro e w9 ⟨rfl, hb9⟩; have R9 := Lib.hid (HR'.out.drew.below hb9); obtain ⟨s0, s1, s2, s3⟩ := R9.out.at HXq.out; obtain ⟨r0, r1, r2, r3⟩ := R9.out.at HYq.out; have G9 := Lib.hid (HG.out.drew.below hb9); clear hb9))
        clear x0 x1 x2 x3 y0 y1 y2 y3
        go_wp2
        go_roundw
        case rel =>
          refine ⟨i, m, hi, by omega, by omega, rfl, rfl, R9, G9, HLo, fun k h hk => ?_⟩
          have hx' : tLt u (V[m - pm]'HMV.out) := by
            have h1 := HA.out _ (List.getElem_mem HMV.out)
            refine (nlt_key h1).2 ?_
            rw [← HX.out, ← HY.out]
            omega
          exact sd_ge HV.out h (by omega) hx'
        case measure => simp [intOf]; omega
    · obtain rfl : i = j := by omega
      have hnl : ¬ (i : Int) < (i : Int) := by omega
      obtain ⟨V1, V2, e, hl1, h1, h2⟩ := part_at (V := V) (u := u) (k := i - pm) (by have h2 := HPB.out; have h3 := HPM.out; omega) HLo.out HHi.out
      have HSO : Hid (so (u :: V) = V1 ++ u :: V2) := by
        show _ = _
        rw [e]
        exact so_into (by rw [← e]; exact HV.out) h1 h2
      have HE := Lib.hid e
      have HL1 : Hid (pa + V1.length + 1 = i) := by show _ = _; have h3 := HPM.out; omega
      have H1 : Hid (∃ A B, V1 = A ++ B ∧ pa + A.length = pa ∧ RowC wr D off (P ++ (A ++ (u :: (B ++ (V2 ++ S)))))) := ⟨[], V1, rfl, rfl, by have := HR'.out; rw [e] at this; simpa using this⟩
      have hpi : pa + 1 ≤ i := by have h3 := HPM.out; omega
      clear e hl1 h1 h2 HLo HHi
      obtain ⟨wo, rfl⟩ : ∃ wo : World, wo = wr := ⟨_, rfl⟩
      go_wp2
      go_loopw [13] (fun k wr => ∃ k' : Nat, pa ≤ k' ∧ k' + 1 ≤ i ∧ k = .int .i64 k' ∧ Hid (∃ A B, V1 = A ++ B ∧ pa + A.length = k' ∧ RowC wr D off (P ++ (A ++ (u :: (B ++ (V2 ++ S)))))) ∧ Hid (GW D w wr)) (fun k _ => (i - intOf k).toNat)
      case atStart => exact ⟨pa, Nat.le_refl _, hpi, rfl, H1, HG⟩
      case round =>
        obtain ⟨k, hk1, hk2, rfl, HX, HGk⟩ := hrel
        clear H1
        obtain ⟨A, B, e1, e2, e3⟩ := HX.out
        have E1 := Lib.hid e1
        have E2 := Lib.hid e2
        have E3 := Lib.hid e3
        have hAB : V1.length = A.length + B.length := by rw [e1, List.length_append]
        clear HX
        by_cases hlt : k + 1 < i
        · have hlti : (k : Int) < (i : Int) - 1 := by omega
          rcases B with _ | ⟨x, B⟩
          · exact absurd hlt (by have h1 := HL1.out; simp at hAB; omega)
          have hu? : (P ++ (A ++ (u :: (x :: B ++ (V2 ++ S)))))[k]? = some u := by
            have e : P ++ (A ++ (u :: (x :: B ++ (V2 ++ S)))) = (P ++ A) ++ u :: (x :: B ++ (V2 ++ S)) := by simp
            have e' : k = (P ++ A).length := by rw [List.length_append]; have := HPA.out; omega
            rw [e, e']; simp
          have hx? : (P ++ (A ++ (u :: (x :: B ++ (V2 ++ S)))))[k + 1]? = some x := by
            have e : P ++ (A ++ (u :: (x :: B ++ (V2 ++ S)))) = (P ++ A) ++ u :: (x :: B ++ (V2 ++ S)) := by simp
            have e' : k + 1 = (P ++ A).length + 1 := by rw [List.length_append]; have := HPA.out; omega
            rw [e, e', List.getElem?_append_right (by omega), Nat.add_sub_cancel_left]; rfl
          obtain ⟨x0, x1, x2, x3⟩ := e3.at hu?
          obtain ⟨y0, y1, y2, y3⟩ := e3.at hx?
          have HXq := Lib.hid hu?
          have HYq := Lib.hid hx?
          have fz := e3.2.1
          have hkn : (k : Int) + 1 < (n : Int) := by omega
          clear e1 e2 e3 hu? hx? hAB
          go_wp2
          go_region
          go_wp2
          go_roundw
          case rel =>
            refine ⟨k + 1, by omega, by omega, by go_num, ⟨A ++ [x], B, by rw [E1.out]; simp, by have := E2.out; rw [List.length_append, List.length_singleton]; omega, ?_⟩, HGk.out.swap _ _ u x⟩
            have h1 := E3.out.swap HXq.out HYq.out
            have e : P ++ (A ++ (u :: (x :: B ++ (V2 ++ S)))) = (P ++ A) ++ u :: x :: (B ++ (V2 ++ S)) := by simp
            have e' : k = (P ++ A).length := by rw [List.length_append]; have h1 := HPA.out; have h2 := E2.out; omega
            have e4 : swp (P ++ (A ++ (u :: (x :: B ++ (V2 ++ S))))) k (k + 1) = P ++ (A ++ [x] ++ (u :: (B ++ (V2 ++ S)))) := by
              rw [e, e', swp_adj]; simp
            rw [e4] at h1
            exact h1
          case measure => simp [intOf]; omega
        · have hge : ¬ (k : Int) < (i : Int) - 1 := by omega
          have hB0 : B = [] := List.length_eq_zero_iff.1 (by have h1 := HL1.out; omega)
          subst hB0
          have HF : Hid (RowC wr D off (P ++ (so (u :: V) ++ S))) := by
            show RowC wr D off _
            rw [HSO.out, E1.out]
            have := E3.out
            simpa using this
          clear e1 e2 e3 hAB
          go_wp2
          refine bodyPost_ret (results_none rfl _ _ _) rfl ?_
          exact ⟨rfl, HF.out, HGk.out⟩
theorem so_into2 {U1 U2 : List Trn} {v : Trn} (hU : Sd (U1 ++ U2)) (h1 : ∀ y ∈ U1, tLt y v) (h2 : ∀ y ∈ U2, tLt v y) : so ((U1 ++ U2) ++ [v]) = U1 ++ v :: U2 := by
  have h := so_into hU h1 h2
  obtain ⟨s1, s2, s3⟩ := sd_app.1 hU
  refine so_eq ?_ (by rw [← h]; exact (by rw [h]; exact sd_app.2 ⟨s1, List.pairwise_cons.2 ⟨h2, s2⟩, fun a ha b hb => by
    rcases List.mem_cons.1 hb with rfl | hb
    · exact h1 a ha
    · exact s3 a ha b hb⟩ : Sd (so (v :: (U1 ++ U2)))))
  rw [List.append_assoc]
  exact List.Perm.append_left U1 List.perm_append_comm
set_option maxHeartbeats 4000000 in
set_option maxRecDepth 100000 in
theorem sym_right (D off n cap : Nat) (P U S : List Trn) (v : Trn) (a m b : Int) (w : World) (h : RowC w D off (P ++ ((U ++ [v]) ++ S))) (hn : n = (P ++ ((U ++ [v]) ++ S)).length) (ha : a = (P.length : Int)) (hm : m = (P.length : Int) + U.length) (hb : b = (P.length : Int) + U.length + 1) (hU1 : U.length ≠ 1) (hU : Sd U) (hA : ∀ x ∈ U, x.tg < v.tg) (hB : NoB (U ++ [v])) (hn8 : n ≤ 100000) :
    Calls Tryz.prog 154 #[.slice (some ⟨D, off, none⟩) n cap, .int .i64 a, .int .i64 m, .int .i64 b, .func (.func 71) #[] #[]] w fun e w' => e = .returned (.tuple #[]) ∧ RowC w' D off (P ++ (so (U ++ [v]) ++ S)) ∧ GW D w w' := by
  have eg := less_enters
  obtain ⟨pa, hpa⟩ : ∃ pa : Nat, pa = P.length := ⟨_, rfl⟩
  obtain ⟨pu, hpu⟩ : ∃ pu : Nat, pu = U.length := ⟨_, rfl⟩
  obtain ⟨pm, hpm⟩ : ∃ pm : Nat, pm = pa + pu := ⟨_, rfl⟩
  obtain ⟨pb, hpb⟩ : ∃ pb : Nat, pb = pm + 1 := ⟨_, rfl⟩
  have ea : a = (pa : Int) := by omega
  have em : m = (pm : Int) := by omega
  have eb : b = (pb : Int) := by omega
  have hbn : pb ≤ n := by rw [hn]; simp only [List.length_append, List.length_singleton]; omega
  have ham : pa ≤ pm := by omega
  have hmn : (pm : Int) < (n : Int) := by omega
  subst ea em eb
  have e1 : (pm : Int) - (pa : Int) = (pu : Int) := by omega
  have e1' : ((pu : Int) == 1) = false := by rw [beq_eq_false_iff_ne]; omega
  have e2 : (pb : Int) - (pm : Int) = 1 := by omega
  have HPA := Lib.hid hpa
  have HPU := Lib.hid hpu
  have HPM := Lib.hid hpm
  have HN := Lib.hid hn
  have HU := Lib.hid hU
  have HA := Lib.hid hA
  have HB := Lib.hid hB
  have HR := Lib.hid h
  clear h hn ha hm hb hpa hpm hpb hpu hU hA hB hU1
  go_enter Tryz.func154, Tryz.ntmps154
  go_wp2
  clear e1 e1' e2
  go_loopw [14, 15, 16] (fun i j _ wr => ∃ i' j' : Nat, pa ≤ i' ∧ i' ≤ j' ∧ j' ≤ pm ∧ i = .int .i64 i' ∧ j = .int .i64 j' ∧ Hid (RowC wr D off (P ++ ((U ++ [v]) ++ S))) ∧ Hid (GW D w wr) ∧ Hid (∀ k (h : k < U.length), k < i' - pa → tLt U[k] v) ∧ Hid (∀ k (h : k < U.length), j' - pa ≤ k → tLt v U[k])) (fun i j _ _ => (intOf j - intOf i).toNat)
  case atStart => exact ⟨pa, pm, Nat.le_refl _, ham, Nat.le_refl _, rfl, rfl, HR, GW.refl D w, fun k h h1 => by omega, fun k h h1 => by have h2 := HPU.out; have h3 := HPM.out; omega⟩
  case round =>
    obtain ⟨i, j, hi, hij, hj, rfl, rfl, HR', HG, HLo, HHi⟩ := hrel
    by_cases hlt : i < j
    · have hlti : (i : Int) < (j : Int) := by omega
      obtain ⟨m, hm, hm1, hm2⟩ := mid_bd hlt
      have hmV : m - pa < U.length := by have h2 := HPU.out; have h3 := HPM.out; omega
      have HMV := Lib.hid hmV
      obtain ⟨y, hy⟩ : ∃ y, y = U[m - pa]'HMV.out := ⟨_, rfl⟩
      have hy? : (P ++ ((U ++ [v]) ++ S))[m]? = some y := by
        have e : m = P.length + (m - pa) := by have h2 := HPA.out; omega
        rw [e, List.getElem?_append_right (by omega), Nat.add_sub_cancel_left, List.append_assoc, List.getElem?_append_left hmV, List.getElem?_eq_getElem hmV, ← hy]
      obtain ⟨x, hx⟩ : ∃ x, x = v := ⟨_, rfl⟩
      have hx? : (P ++ ((U ++ [v]) ++ S))[pm]? = some x := by
        have e : pm = P.length + U.length := by have h2 := HPA.out; have h3 := HPM.out; have h4 := HPU.out; omega
        rw [e, hx]; simp
      have HY := Lib.hid hy
      have HX := Lib.hid hx
      have HXq := Lib.hid hx?
      have HYq := Lib.hid hy?
      have hym : y ∈ U := by rw [hy]; exact List.getElem_mem _
      have HL := Lib.hid (fun w' => less_any x y w' (HB.out x (by rw [hx]; simp)) (HB.out y (List.mem_append_left _ hym)))
      have HTG := Lib.hid (HA.out y hym)
      obtain ⟨x0, x1, x2, x3⟩ := HR'.out.at hx?
      obtain ⟨y0, y1, y2, y3⟩ := HR'.out.at hy?
      have hmn2 : (m : Int) < (n : Int) := by omega
      clear hx hx? hy hy? hym hmV
      by_cases hc : x.no < y.no
      · have hl2 : decide (x.no - y.no < 0) = true := by rw [decide_eq_true_iff]; omega
        go_wp2
        go_region_held3 (fun w' => w'.cell? ⟨D, off + pm * 4, none⟩ = some (.int .i64 x.no) ∧ w'.cell? ⟨D, off + pm * 4 + 1, none⟩ = some (.int .i64 x.tg) ∧ w'.cell? ⟨D, off + pm * 4 + 2, none⟩ = some (.int .i64 x.r.sv) ∧ w'.cell? ⟨D, off + pm * 4 + 3, none⟩ = some (.string x.r.lt) ∧ w'.cell? ⟨D, off + m * 4, none⟩ = some (.int .i64 y.no) ∧ w'.cell? ⟨D, off + m * 4 + 1, none⟩ = some (.int .i64 y.tg) ∧ w'.cell? ⟨D, off + m * 4 + 2, none⟩ = some (.int .i64 y.r.sv) ∧ w'.cell? ⟨D, off + m * 4 + 3, none⟩ = some (.string y.r.lt)) (first | (with_reducible exact ⟨x0, x1, x2, x3, y0, y1, y2, y3⟩) | (with_reducible exact ⟨s0, s1, s2, s3, r0, r1, r2, r3⟩) | go_keep) ((go_at_call 71; refine (HL.out _).mono ?_; rintro e w9 ⟨rfl, hb9⟩; have R9 := Lib.hid (HR'.out.drew.below hb9); obtain ⟨s0, s1, s2, s3⟩ := R9.out.at HXq.out; obtain ⟨r0, r1, r2, r3⟩ := R9.out.at HYq.out; have G9 := Lib.hid (HG.out.drew.below hb9); clear hb9))
        clear x0 x1 x2 x3 y0 y1 y2 y3
        go_wp2
        go_roundw
        case rel =>
          refine ⟨i, m, hi, by omega, by omega, rfl, rfl, R9, G9, HLo, fun k h hk => ?_⟩
          have hx' : tLt v (U[m - pa]'HMV.out) := by
            have h1 := (lt_key HTG.out).2 (by rw [← HX.out]; exact hc)
            rw [HY.out] at h1
            exact h1
          exact sd_ge HU.out h (by omega) hx'
        case measure => simp [intOf]; omega
      · have hl2 : decide (x.no - y.no < 0) = false := by rw [decide_eq_false_iff_not]; omega
        go_wp2
        go_region_held3 (fun w' => w'.cell? ⟨D, off + pm * 4, none⟩ = some (.int .i64 x.no) ∧ w'.cell? ⟨D, off + pm * 4 + 1, none⟩ = some (.int .i64 x.tg) ∧ w'.cell? ⟨D, off + pm * 4 + 2, none⟩ = some (.int .i64 x.r.sv) ∧ w'.cell? ⟨D, off + pm * 4 + 3, none⟩ = some (.string x.r.lt) ∧ w'.cell? ⟨D, off + m * 4, none⟩ = some (.int .i64 y.no) ∧ w'.cell? ⟨D, off + m * 4 + 1, none⟩ = some (.int .i64 y.tg) ∧ w'.cell? ⟨D, off + m * 4 + 2, none⟩ = some (.int .i64 y.r.sv) ∧ w'.cell? ⟨D, off + m * 4 + 3, none⟩ = some (.string y.r.lt)) (first | (with_reducible exact ⟨x0, x1, x2, x3, y0, y1, y2, y3⟩) | (with_reducible exact ⟨s0, s1, s2, s3, r0, r1, r2, r3⟩) | go_keep) ((go_at_call 71; refine (HL.out _).mono ?_; rintro e w9 ⟨rfl, hb9⟩; have R9 := Lib.hid (HR'.out.drew.below hb9); obtain ⟨s0, s1, s2, s3⟩ := R9.out.at HXq.out; obtain ⟨r0, r1, r2, r3⟩ := R9.out.at HYq.out; have G9 := Lib.hid (HG.out.drew.below hb9); clear hb9))
        clear x0 x1 x2 x3 y0 y1 y2 y3
        go_wp2
        go_roundw
        case rel =>
          refine ⟨m + 1, j, by omega, by omega, hj, by go_num, rfl, R9, G9, fun k h hk => ?_, HHi⟩
          have hx' : tLt (U[m - pa]'HMV.out) v := by
            have h1 := (nlt_key HTG.out).2 (by rw [← HX.out]; omega)
            rw [HY.out] at h1
            exact h1
          exact sd_le HU.out HMV.out (by omega) hx'
        case measure => simp [intOf]; omega
    · obtain rfl : i = j := by omega
      have hnl : ¬ (i : Int) < (i : Int) := by omega
      obtain ⟨U1, U2, e, hl1, h1, h2⟩ := part_at (V := U) (u := v) (k := i - pa) (by have h2 := HPU.out; have h3 := HPM.out; omega) HLo.out HHi.out
      have HSO : Hid (so (U ++ [v]) = U1 ++ v :: U2) := by
        show _ = _
        rw [e]
        exact so_into2 (by rw [← e]; exact HU.out) h1 h2
      have HL1 : Hid (pa + U1.length = i ∧ pm = i + U2.length) := by
        show _ ∧ _
        have h3 := HPM.out
        have h4 := HPU.out
        rw [e, List.length_append] at h4
        omega
      have H1 : Hid (∃ A B, U2 = A ++ B ∧ i + A.length = pm ∧ RowC wr D off (P ++ (U1 ++ (A ++ (v :: (B ++ S)))))) := ⟨U2, [], by simp, by have := HL1.out; omega, by have := HR'.out; rw [e] at this; simpa using this⟩
      clear e hl1 h1 h2 HLo HHi
      obtain ⟨wo, rfl⟩ : ∃ wo : World, wo = wr := ⟨_, rfl⟩
      go_wp2
      go_loopw [17] (fun k wr => ∃ k' : Nat, i ≤ k' ∧ k' ≤ pm ∧ k = .int .i64 k' ∧ Hid (∃ A B, U2 = A ++ B ∧ i + A.length = k' ∧ RowC wr D off (P ++ (U1 ++ (A ++ (v :: (B ++ S)))))) ∧ Hid (GW D w wr)) (fun k _ => (intOf k).toNat)
      case atStart => exact ⟨pm, hj, Nat.le_refl _, rfl, H1, HG⟩
      case round =>
        obtain ⟨k, hk1, hk2, rfl, HX, HGk⟩ := hrel
        clear H1
        obtain ⟨A, B, e1, e2, e3⟩ := HX.out
        have E1 := Lib.hid e1
        have E2 := Lib.hid e2
        have E3 := Lib.hid e3
        clear HX
        by_cases hlt : i < k
        · have hlti : (i : Int) < (k : Int) := by omega
          obtain ⟨A', y, hA'⟩ : ∃ A' y, A = A' ++ [y] := by
            rcases List.eq_nil_or_concat A with e | ⟨A', y, e⟩
            · exact absurd hlt (by rw [e] at e2; simp at e2; omega)
            · exact ⟨A', y, by rw [e, List.concat_eq_append]⟩
          subst hA'
          have el : P ++ (U1 ++ (A' ++ [y] ++ (v :: (B ++ S)))) = (P ++ (U1 ++ A')) ++ y :: v :: (B ++ S) := by simp
          have el2 : k = (P ++ (U1 ++ A')).length + 1 := by
            simp only [List.length_append, List.length_singleton] at e2 ⊢
            have h1 := HL1.out; have h2 := HPA.out; omega
          have hv? : (P ++ (U1 ++ (A' ++ [y] ++ (v :: (B ++ S)))))[k]? = some v := by
            rw [el, el2, List.getElem?_append_right (by omega), Nat.add_sub_cancel_left]; rfl
          have hy? : (P ++ (U1 ++ (A' ++ [y] ++ (v :: (B ++ S)))))[k - 1]? = some y := by
            rw [el, el2]; simp
          obtain ⟨x0, x1, x2, x3⟩ := e3.at hv?
          obtain ⟨y0, y1, y2, y3⟩ := e3.at hy?
          have HXq := Lib.hid hv?
          have HYq := Lib.hid hy?
          have EL := Lib.hid el
          have EL2 := Lib.hid el2
          have fz := e3.2.1
          have hkn : (k : Int) < (n : Int) := by omega
          have t2 : (0 : Int) ≤ (k : Int) - 1 := by omega
          have t3 : (k : Int) - 1 < (n : Int) := by omega
          have t4 : ((k : Int) - 1).toNat = k - 1 := by omega
          clear e1 e2 e3 hv? hy? el el2
          go_wp2
          go_region
          go_wp2
          go_roundw
          case rel =>
            refine ⟨k - 1, by omega, by omega, by rw [show ((k - 1 : Nat) : Int) = (k : Int) - 1 by omega], ⟨A', y :: B, by rw [E1.out]; simp, by have := E2.out; rw [List.length_append, List.length_singleton] at this; omega, ?_⟩, HGk.out.swap _ _ v y⟩
            have h1 := E3.out.swap HXq.out HYq.out
            have e4 : swp (P ++ (U1 ++ (A' ++ [y] ++ (v :: (B ++ S))))) k (k - 1) = P ++ (U1 ++ (A' ++ (v :: (y :: B ++ S)))) := by
              rw [swp_sym, EL.out, EL2.out, Nat.add_sub_cancel, swp_adj]; simp
            rw [e4] at h1
            exact h1
          case measure => simp [intOf]; omega
        · have hge : ¬ (i : Int) < (k : Int) := by omega
          have hA0 : A = [] := List.length_eq_zero_iff.1 (by omega)
          subst hA0
          have HF : Hid (RowC wr D off (P ++ (so (U ++ [v]) ++ S))) := by
            show RowC wr D off _
            rw [HSO.out, E1.out]
            have := E3.out
            simpa using this
          clear e1 e2 e3
          go_wp2
          refine bodyPost_ret (results_none rfl _ _ _) rfl ?_
          exact ⟨rfl, HF.out, HGk.out⟩
end Go.Proofs.YtbikdlcjbigafaaGreatDoor
namespace Go.Proofs.YtbikdlcjbigafaaGreatDoor
set_option linter.unusedVariables false
set_option linter.unusedSimpArgs false
open Go.ChangeShapes Go.WideShapes Go.ChangeAt Go.RowKit

/-- all up to one are ahead of all from another one on. -/
theorem lo_cross {U V : List Trn} (hU : Sd U) (hV : Sd V) {i j : Nat} {x y : Trn} (hx : U[i]? = some x) (hy : V[j]? = some y) (h : tLt x y) : Lo (U.take (i + 1)) (V.drop j) := by
  obtain ⟨hi, rfl⟩ := List.getElem?_eq_some_iff.1 hx
  obtain ⟨hj, rfl⟩ := List.getElem?_eq_some_iff.1 hy
  intro a ha b hb
  obtain ⟨k, hk, rfl⟩ := List.mem_iff_getElem.1 ha
  obtain ⟨l, hl, rfl⟩ := List.mem_iff_getElem.1 hb
  rw [List.length_take] at hk
  rw [List.length_drop] at hl
  rw [List.getElem_take, List.getElem_drop]
  exact sd_ge hV (by omega) (by omega) (sd_le hU hi (by omega) h)
theorem lo_nil_l (V : List Trn) : Lo [] V := fun _ h => by cases h
theorem lo_nil_r (V : List Trn) : Lo V [] := fun _ _ _ h => by cases h
/-- what a search by halves has found, of halves that are told apart. -/
structure SymF (U V : List Trn) (pa pm pb mid s0 r0 s r : Nat) : Prop where
  ord : s0 ≤ s ∧ s ≤ r ∧ r ≤ r0
  lo : s = s0 ∨ ∃ x y, U[s - 1 - pa]? = some x ∧ V[mid - s]? = some y ∧ tLt x y
  hi : r = r0 ∨ ∃ x y, U[r - pa]? = some x ∧ V[mid - r - 1]? = some y ∧ tLt y x
theorem SymF.parts {U V : List Trn} {pa pm pb mid s0 r0 s : Nat} (h : SymF U V pa pm pb mid s0 r0 s s) (hm : pm = pa + U.length) (hb : pb = pm + V.length) (hmid : mid = (pa + pb) / 2) (hU : Sd U) (hV : Sd V)
    (h0 : (mid < pm ∧ s0 + pb = mid + pm ∧ r0 = mid) ∨ (pm ≤ mid ∧ s0 = pa ∧ r0 = pm)) :
    ∃ U1 U2 V1 V2, U = U1 ++ U2 ∧ V = V1 ++ V2 ∧ pa + U1.length = s ∧ s + V1.length = mid ∧ Lo U1 V2 ∧ Lo V1 U2 := by
  obtain ⟨⟨o1, o2, o3⟩, hlo, hhi⟩ := h
  refine ⟨U.take (s - pa), U.drop (s - pa), V.take (mid - s), V.drop (mid - s), (List.take_append_drop _ _).symm, (List.take_append_drop _ _).symm, by rw [List.length_take]; omega, by rw [List.length_take]; omega, ?_, ?_⟩
  · rcases hlo with e | ⟨x, y, hx, hy, hxy⟩
    · rcases h0 with ⟨c1, c2, c3⟩ | ⟨c1, c2, c3⟩
      · rw [List.drop_of_length_le (by omega)]; exact lo_nil_r _
      · rw [show s - pa = 0 by omega]; exact lo_nil_l _
    · rcases Nat.eq_or_lt_of_le (show pa ≤ s by omega) with e | e
      · rw [show s - pa = 0 by omega]; exact lo_nil_l _
      · have := lo_cross hU hV hx hy hxy
        rw [show s - 1 - pa + 1 = s - pa by omega] at this
        exact this
  · rcases hhi with e | ⟨x, y, hx, hy, hxy⟩
    · rcases h0 with ⟨c1, c2, c3⟩ | ⟨c1, c2, c3⟩
      · rw [show mid - s = 0 by omega]; exact lo_nil_l _
      · rw [List.drop_of_length_le (by omega)]; exact lo_nil_r _
    · rcases Nat.eq_zero_or_pos (mid - s) with e | e
      · rw [e]; exact lo_nil_l _
      · have := lo_cross hV hU hy hx hxy
        rw [show mid - s - 1 + 1 = mid - s by omega] at this
        exact this
/-- what symMerge's contract asks of the lists. -/
structure SymO (P U V S : List Trn) (n : Nat) (a m b : Int) : Prop where
  hn : n = (P ++ ((U ++ V) ++ S)).length
  ha : a = (P.length : Int)
  hm : m = (P.length : Int) + U.length
  hb : b = (P.length : Int) + U.length + V.length
  u0 : 0 < U.length
  v0 : 0 < V.length
  su : Sd U
  sv : Sd V
  tu : Td U
  tv : Td V
  ah : Ah U V
  nb : NoB (U ++ V)
  n8 : n ≤ 100000
def SymC (D off n cap N : Nat) : Prop := ∀ (P U V S : List Trn) (a m b : Int) (w : World), U.length + V.length < N → SymO P U V S n a m b → RowC w D off (P ++ ((U ++ V) ++ S)) →
    Calls Tryz.prog 154 #[.slice (some ⟨D, off, none⟩) n cap, .int .i64 a, .int .i64 m, .int .i64 b, .func (.func 71) #[] #[]] w fun e w' => e = .returned (.tuple #[]) ∧ RowC w' D off (P ++ (so (U ++ V) ++ S)) ∧ GW D w w'
set_option maxHeartbeats 8000000 in
set_option maxRecDepth 100000 in
theorem sym_gen (D off n cap N : Nat) (ih : SymC D off n cap N) (P U V S : List Trn) (a m b : Int) (w : World) (hN : U.length + V.length < N + 1) (ho : SymO P U V S n a m b) (hU1 : U.length ≠ 1) (hV1 : V.length ≠ 1) (h : RowC w D off (P ++ ((U ++ V) ++ S))) :
    Calls Tryz.prog 154 #[.slice (some ⟨D, off, none⟩) n cap, .int .i64 a, .int .i64 m, .int .i64 b, .func (.func 71) #[] #[]] w fun e w' => e = .returned (.tuple #[]) ∧ RowC w' D off (P ++ (so (U ++ V) ++ S)) ∧ GW D w w' := by
  have eg := less_enters
  obtain ⟨hn, ha, hm, hb, hu0, hv0, hsu, hsv, htu, htv, hah, hnb, hn8⟩ := ho
  obtain ⟨pa, hpa⟩ : ∃ pa : Nat, pa = P.length := ⟨_, rfl⟩
  obtain ⟨pu, hpu⟩ : ∃ pu : Nat, pu = U.length := ⟨_, rfl⟩
  obtain ⟨pv, hpv⟩ : ∃ pv : Nat, pv = V.length := ⟨_, rfl⟩
  obtain ⟨pm, hpm⟩ : ∃ pm : Nat, pm = pa + pu := ⟨_, rfl⟩
  obtain ⟨pb, hpb⟩ : ∃ pb : Nat, pb = pm + pv := ⟨_, rfl⟩
  obtain ⟨mid, hmid⟩ : ∃ mid : Nat, mid = (pa + pb) / 2 := ⟨_, rfl⟩
  obtain ⟨n0, hn0⟩ : ∃ n0 : Nat, n0 = mid + pm := ⟨_, rfl⟩
  obtain ⟨s0, r0, h0⟩ : ∃ s0 r0 : Nat, (mid < pm ∧ s0 + pb = mid + pm ∧ r0 = mid) ∨ (pm ≤ mid ∧ s0 = pa ∧ r0 = pm) := by
    rcases Nat.lt_or_ge mid pm with c | c
    · exact ⟨mid + pm - pb, mid, .inl ⟨c, by omega, rfl⟩⟩
    · exact ⟨pa, pm, .inr ⟨c, rfl, rfl⟩⟩
  have ea : a = (pa : Int) := by omega
  have em : m = (pm : Int) := by omega
  have eb : b = (pb : Int) := by omega
  have hbn : pb ≤ n := by rw [hn]; simp only [List.length_append]; omega
  subst ea em eb
  have e1 : (pm : Int) - (pa : Int) = (pu : Int) := by omega
  have e1' : ((pu : Int) == 1) = false := by rw [beq_eq_false_iff_ne]; omega
  have e2 : (pb : Int) - (pm : Int) = (pv : Int) := by omega
  have e2' : ((pv : Int) == 1) = false := by rw [beq_eq_false_iff_ne]; omega
  have e3 : ((pa : Int) + (pb : Int)) / 2 = (mid : Int) := by omega
  have e4 : (mid : Int) + (pm : Int) = (n0 : Int) := by omega
  have HPA := Lib.hid hpa
  have HPU := Lib.hid hpu
  have HPV := Lib.hid hpv
  have HPM := Lib.hid hpm
  have HPB := Lib.hid hpb
  have HMID := Lib.hid hmid
  have HN0 := Lib.hid hn0
  have H0 := Lib.hid h0
  have HN := Lib.hid hn
  have HNN := Lib.hid hN
  have HU := Lib.hid hsu
  have HV := Lib.hid hsv
  have HTU := Lib.hid htu
  have HTV := Lib.hid htv
  have HAH := Lib.hid hah
  have HNB := Lib.hid hnb
  have HR := Lib.hid h
  have IH := Lib.hid ih
  have hn1 : 1 ≤ n0 := by omega
  have HPAM : Hid (pa < mid) := by show _ < _; omega
  have hsr : s0 ≤ r0 := by omega
  have hr0 : r0 ≤ mid ∧ r0 ≤ pm := by omega
  have hs0 : pa ≤ s0 := by omega
  obtain ⟨hr1, hr2⟩ := hr0
  have hma : pa ≤ mid := by omega
  have hmb : mid < pb := by omega
  have ham : pa ≤ pm := by omega
  have hpmb : pm < pb := by omega
  clear h hn ha hm hb hpa hpm hpb hpu hpv hU1 hV1 hmid hn0 h0 hN hu0 hv0 hsu hsv htu htv hah hnb ih
  go_enter Tryz.func154, Tryz.ntmps154
  go_upto_if 140 with fail
  clear e1 e1' e2 e2' e3 e4
  go_cut [20, 21] (fun s20 s21 wx => s20 = .int .i64 (s0 : Int) ∧ s21 = .int .i64 (r0 : Int) ∧ w = wx)
  case first => as_aux_lemma =>
    rcases Nat.lt_or_ge mid pm with c | c
    · have c1 : (mid : Int) < (pm : Int) := by omega
      have c2 : (n0 : Int) - (pb : Int) = (s0 : Int) := by have h1 := H0.out; have h2 := HN0.out; omega
      obtain rfl : r0 = mid := by have h1 := H0.out; omega
      go_wp2
      go_meet
      exact ⟨rfl, rfl, rfl⟩
    · have c1 : ¬ (mid : Int) < (pm : Int) := by omega
      obtain rfl : r0 = pm := by have h1 := H0.out; omega
      obtain rfl : s0 = pa := by have h1 := H0.out; omega
      go_wp2
      go_meet
      exact ⟨rfl, rfl, rfl⟩
  case rest =>
    obtain ⟨rfl, rfl, rfl⟩ := hcut
    have HS0 : Hid (SymF U V pa pm pb mid s0 r0 s0 r0) := ⟨⟨Nat.le_refl _, hsr, Nat.le_refl _⟩, .inl rfl, .inl rfl⟩
    obtain ⟨p0, hp0⟩ : ∃ p0 : Nat, p0 + 1 = n0 := ⟨n0 - 1, by omega⟩
    have ep : (n0 : Int) - 1 = (p0 : Int) := by omega
    have HP0 := Lib.hid hp0
    have hn0n : p0 ≤ 200000 := by have h1 := HN0.out; omega
    clear hp0
    go_wp2
    clear ep
    go_loopw [20, 21, 23] (fun i j _ wr => ∃ i' j' : Nat, s0 ≤ i' ∧ i' ≤ j' ∧ j' ≤ r0 ∧ i = .int .i64 i' ∧ j = .int .i64 j' ∧ Hid (RowC wr D off (P ++ ((U ++ V) ++ S))) ∧ Hid (GW D w wr) ∧ Hid (SymF U V pa pm pb mid s0 r0 i' j')) (fun i j _ _ => (intOf j - intOf i).toNat)
    case atStart => exact ⟨s0, r0, Nat.le_refl _, hsr, Nat.le_refl _, rfl, rfl, HR, GW.refl D w, HS0⟩
    case round =>
      obtain ⟨i, j, hi, hij, hj, rfl, rfl, HR', HG, HS⟩ := hrel
      clear HS0
      by_cases hlt : i < j
      · have hlti : (i : Int) < (j : Int) := by omega
        obtain ⟨c, hc, hc1, hc2⟩ := mid_bd hlt
        obtain ⟨d, hd⟩ : ∃ d : Nat, c + d = p0 := ⟨p0 - c, by have h1 := HN0.out; have h2 := HP0.out; omega⟩
        have hcd : (p0 : Int) - (c : Int) = (d : Int) := by omega
        have hcU : c - pa < U.length := by have h1 := HPU.out; have h2 := HPM.out; omega
        have hdV : mid - c - 1 < V.length := by have h1 := HPV.out; have h2 := HPB.out; have h3 := H0.out; have h4 := HMID.out; omega
        obtain ⟨y, hy⟩ : ∃ y, U[c - pa]? = some y := ⟨_, List.getElem?_eq_getElem hcU⟩
        obtain ⟨x, hx⟩ : ∃ x, V[mid - c - 1]? = some x := ⟨_, List.getElem?_eq_getElem hdV⟩
        have hy? : (P ++ ((U ++ V) ++ S))[c]? = some y := by
          have e : c = P.length + (c - pa) := by have h2 := HPA.out; omega
          rw [e, List.getElem?_append_right (by omega), Nat.add_sub_cancel_left, List.append_assoc, List.getElem?_append_left hcU, hy]
        have hx? : (P ++ ((U ++ V) ++ S))[d]? = some x := by
          have e : d = P.length + (U.length + (mid - c - 1)) := by have h1 := HPA.out; have h2 := HPU.out; have h3 := HPM.out; have h4 := HP0.out; have h5 := HN0.out; omega
          rw [e, List.getElem?_append_right (by omega), Nat.add_sub_cancel_left, List.append_assoc, List.getElem?_append_right (by omega), Nat.add_sub_cancel_left, List.getElem?_append_left hdV, hx]
        have hxm : x ∈ V := List.mem_of_getElem? hx
        have hym : y ∈ U := List.mem_of_getElem? hy
        have HXV := Lib.hid hx
        have HYU := Lib.hid hy
        have HXq := Lib.hid hx?
        have HYq := Lib.hid hy?
        have HTG := Lib.hid (HAH.out y hym x hxm)
        have HL := Lib.hid (fun w' => less_any x y w' (HNB.out x (List.mem_append_right _ hxm)) (HNB.out y (List.mem_append_left _ hym)))
        obtain ⟨x0, x1, x2, x3⟩ := HR'.out.at hx?
        obtain ⟨y0, y1, y2, y3⟩ := HR'.out.at hy?
        have t1 : IntKind.i64.wrap (d : Int) = (d : Int) := IntWalk.i64_in _ (by omega)
        have hcn : (c : Int) < (n : Int) := by omega
        have hdn : (d : Int) < (n : Int) := by have h1 := HPB.out; have h2 := HPV.out; have h3 := HN0.out; have h4 := HP0.out; have h5 := H0.out; have h6 := HMID.out; omega
        have hcdN : p0 - c = d := by omega
        clear hx hy hx? hy? hxm hym hcU hdV hd
        by_cases hcmp : x.no < y.no
        · as_aux_lemma =>
          have hl2 : decide (x.no - y.no < 0) = true := by rw [decide_eq_true_iff]; omega
          go_wp2
          go_region_held3 (fun w' => w'.cell? ⟨D, off + d * 4, none⟩ = some (.int .i64 x.no) ∧ w'.cell? ⟨D, off + d * 4 + 1, none⟩ = some (.int .i64 x.tg) ∧ w'.cell? ⟨D, off + d * 4 + 2, none⟩ = some (.int .i64 x.r.sv) ∧ w'.cell? ⟨D, off + d * 4 + 3, none⟩ = some (.string x.r.lt) ∧ w'.cell? ⟨D, off + c * 4, none⟩ = some (.int .i64 y.no) ∧ w'.cell? ⟨D, off + c * 4 + 1, none⟩ = some (.int .i64 y.tg) ∧ w'.cell? ⟨D, off + c * 4 + 2, none⟩ = some (.int .i64 y.r.sv) ∧ w'.cell? ⟨D, off + c * 4 + 3, none⟩ = some (.string y.r.lt)) (first | (with_reducible exact ⟨x0, x1, x2, x3, y0, y1, y2, y3⟩) | (with_reducible exact ⟨s0', s1, s2, s3, r0', r1, r2, r3⟩) | go_keep) ((go_at_call 71; refine (HL.out _).mono ?_; rintro e w9 ⟨rfl, hb9⟩; have R9 := Lib.hid (HR'.out.drew.below hb9); obtain ⟨s0', s1, s2, s3⟩ := R9.out.at HXq.out; obtain ⟨r0', r1, r2, r3⟩ := R9.out.at HYq.out; have G9 := Lib.hid (HG.out.drew.below hb9); clear hb9))
          clear x0 x1 x2 x3 y0 y1 y2 y3
          go_wp2
          go_roundw
          case rel =>
            have hs := HS.out
            exact ⟨i, c, hi, by omega, by omega, rfl, rfl, R9, G9, ⟨⟨hs.ord.1, hc1, by omega⟩, hs.lo, .inr ⟨y, x, HYU.out, HXV.out, (lt_key HTG.out).2 hcmp⟩⟩⟩
          case measure => simp [intOf]; omega
        · as_aux_lemma =>
          have hl2 : decide (x.no - y.no < 0) = false := by rw [decide_eq_false_iff_not]; omega
          go_wp2
          go_region_held3 (fun w' => w'.cell? ⟨D, off + d * 4, none⟩ = some (.int .i64 x.no) ∧ w'.cell? ⟨D, off + d * 4 + 1, none⟩ = some (.int .i64 x.tg) ∧ w'.cell? ⟨D, off + d * 4 + 2, none⟩ = some (.int .i64 x.r.sv) ∧ w'.cell? ⟨D, off + d * 4 + 3, none⟩ = some (.string x.r.lt) ∧ w'.cell? ⟨D, off + c * 4, none⟩ = some (.int .i64 y.no) ∧ w'.cell? ⟨D, off + c * 4 + 1, none⟩ = some (.int .i64 y.tg) ∧ w'.cell? ⟨D, off + c * 4 + 2, none⟩ = some (.int .i64 y.r.sv) ∧ w'.cell? ⟨D, off + c * 4 + 3, none⟩ = some (.string y.r.lt)) (first | (with_reducible exact ⟨x0, x1, x2, x3, y0, y1, y2, y3⟩) | (with_reducible exact ⟨s0', s1, s2, s3, r0', r1, r2, r3⟩) | go_keep) ((go_at_call 71; refine (HL.out _).mono ?_; rintro e w9 ⟨rfl, hb9⟩; have R9 := Lib.hid (HR'.out.drew.below hb9); obtain ⟨s0', s1, s2, s3⟩ := R9.out.at HXq.out; obtain ⟨r0', r1, r2, r3⟩ := R9.out.at HYq.out; have G9 := Lib.hid (HG.out.drew.below hb9); clear hb9))
          clear x0 x1 x2 x3 y0 y1 y2 y3
          go_wp2
          go_roundw
          case rel =>
            have hs := HS.out
            exact ⟨c + 1, j, by omega, by omega, hj, by go_num, rfl, R9, G9, ⟨⟨by omega, by omega, hj⟩, .inr ⟨y, x, by rw [Nat.add_sub_cancel]; exact HYU.out, by rw [show mid - (c + 1) = mid - c - 1 by omega]; exact HXV.out, (nlt_key HTG.out).2 (by omega)⟩, hs.hi⟩⟩
          case measure => simp [intOf]; omega
      · obtain rfl : i = j := by omega
        have hnl : ¬ (i : Int) < (i : Int) := by omega
        obtain ⟨U1, U2, V1, V2, hUe, hVe, hl1, hl2, hLo1, hLo2⟩ := HS.out.parts (by have h1 := HPM.out; have h2 := HPU.out; omega) (by have h1 := HPB.out; have h2 := HPV.out; omega) HMID.out HU.out HV.out H0.out
        obtain ⟨e, he⟩ : ∃ e : Nat, e + i = n0 := ⟨n0 - i, by have h1 := HN0.out; omega⟩
        have hei : (n0 : Int) - (i : Int) = (e : Int) := by omega
        obtain ⟨p1, hp1⟩ : ∃ p1 : Bool, p1 = (decide (i < pm) && decide (pm < e)) := ⟨_, rfl⟩
        obtain ⟨p2, hp2⟩ : ∃ p2 : Bool, p2 = (decide (pa < i) && decide (i < mid)) := ⟨_, rfl⟩
        obtain ⟨p3, hp3⟩ : ∃ p3 : Bool, p3 = (decide (mid < e) && decide (e < pb)) := ⟨_, rfl⟩
        have Hp1 := Lib.hid hp1
        have Hp2 := Lib.hid hp2
        have Hp3 := Lib.hid hp3
        have hlU : U.length = U1.length + U2.length := by rw [hUe, List.length_append]
        have hlV : V.length = V1.length + V2.length := by rw [hVe, List.length_append]
        -- where the parts lie
        have L1 : Hid (P.length + U1.length = i ∧ i + V1.length = mid ∧ i + U2.length = pm ∧ pm + V1.length = e ∧ mid + U2.length = e ∧ e + V2.length = pb) := by
          show _ ∧ _ ∧ _ ∧ _ ∧ _ ∧ _
          have h1 := HPA.out; have h2 := HPU.out; have h3 := HPV.out; have h4 := HPM.out; have h5 := HPB.out; have h6 := HN0.out
          omega
        have LN : Hid (n = P.length + (U1.length + U2.length + (V1.length + V2.length)) + S.length) := by
          show _ = _
          have h1 := HN.out
          rw [hUe, hVe] at h1
          simp only [List.length_append] at h1
          omega
        have LT : Hid (U1.length + U2.length + (V1.length + V2.length) < N + 1 ∧ pa < mid) := by
          show _ ∧ _
          have h1 := HNN.out; have h2 := HPAM.out
          omega
        have HSD : Hid (so (U ++ V) = so (U1 ++ V1) ++ so (U2 ++ V2)) := by
          show _ = _
          rw [hUe, hVe]
          exact sym_done (by rw [← hUe]; exact HU.out) (by rw [← hVe]; exact HV.out) (by rw [← hUe, ← hVe]; exact HAH.out) hLo1 hLo2 (by rw [← hUe]; exact HTU.out) (by rw [← hVe]; exact HTV.out)
        have HR1 : Hid (RowC wr D off (P ++ (U1 ++ (U2 ++ (V1 ++ (V2 ++ S)))))) := by
          show RowC _ _ _ _
          have := HR'.out
          rw [hUe, hVe] at this
          simpa using this
        -- what the parts' merges ask
        have HO1 : Hid (0 < U1.length → 0 < V1.length → SymO P U1 V1 (U2 ++ V2 ++ S) n (P.length : Int) ((P.length : Int) + U1.length) ((P.length : Int) + U1.length + V1.length)) := by
          show _ → _ → _
          intro q1 q2
          have hU := HU.out; have hV := HV.out; have hTU := HTU.out; have hTV := HTV.out; have hAH := HAH.out; have hNB := HNB.out; have hln := LN.out
          rw [hUe] at hU hTU hAH hNB
          rw [hVe] at hV hTV hAH hNB
          exact ⟨by simp only [List.length_append]; omega, rfl, rfl, rfl, q1, q2, (sd_app.1 hU).1, (sd_app.1 hV).1, (List.pairwise_append.1 hTU).1, (List.pairwise_append.1 hTV).1, fun x hx y hy => hAH x (List.mem_append_left _ hx) y (List.mem_append_left _ hy), fun x hx => hNB x (by rcases List.mem_append.1 hx with h | h <;> simp [h]), hn8⟩
        have HO2 : Hid (0 < U2.length → 0 < V2.length → SymO (P ++ so (U1 ++ V1)) U2 V2 S n ((P ++ so (U1 ++ V1)).length : Int) (((P ++ so (U1 ++ V1)).length : Int) + U2.length) (((P ++ so (U1 ++ V1)).length : Int) + U2.length + V2.length)) := by
          show _ → _ → _
          intro q1 q2
          have hU := HU.out; have hV := HV.out; have hTU := HTU.out; have hTV := HTV.out; have hAH := HAH.out; have hNB := HNB.out; have hln := LN.out
          rw [hUe] at hU hTU hAH hNB
          rw [hVe] at hV hTV hAH hNB
          exact ⟨by simp only [List.length_append, so_len]; omega, rfl, rfl, rfl, q1, q2, (sd_app.1 hU).2.1, (sd_app.1 hV).2.1, (List.pairwise_append.1 hTU).2.1, (List.pairwise_append.1 hTV).2.1, fun x hx y hy => hAH x (List.mem_append_right _ hx) y (List.mem_append_right _ hy), fun x hx => hNB x (by rcases List.mem_append.1 hx with h | h <;> simp [h]), hn8⟩
        have HS1 : Hid (U1.length = 0 ∨ V1.length = 0 → so (U1 ++ V1) = U1 ++ V1) := by
          show _ → _
          have hU := HU.out; have hV := HV.out
          rw [hUe] at hU
          rw [hVe] at hV
          rintro (q | q)
          · rw [List.length_eq_zero_iff.1 q]; exact so_self (sd_app.1 hV).1
          · rw [List.length_eq_zero_iff.1 q, List.append_nil]; exact so_self (sd_app.1 hU).1
        have HS2 : Hid (U2.length = 0 ∨ V2.length = 0 → so (U2 ++ V2) = U2 ++ V2) := by
          show _ → _
          have hU := HU.out; have hV := HV.out
          rw [hUe] at hU
          rw [hVe] at hV
          rintro (q | q)
          · rw [List.length_eq_zero_iff.1 q]; exact so_self (sd_app.1 hV).2.1
          · rw [List.length_eq_zero_iff.1 q, List.append_nil]; exact so_self (sd_app.1 hU).2.1
        have hen : e ≤ n := by have := L1.out; omega
        clear hp1 hp2 hp3 hUe hVe hl1 hl2 hLo1 hLo2 hlU hlV he hi hij hj HS HR' hnl
        obtain ⟨wo, rfl⟩ : ∃ wo : World, wo = wr := ⟨_, rfl⟩
        go_upto_region 39 with fail
        go_cut [185] (fun c wx => c = .bool p1 ∧ wo = wx)
        case first => as_aux_lemma =>
          rcases Nat.lt_or_ge i pm with c1 | c1
          · have d1 : ((i : Nat) : Int) < ((pm : Nat) : Int) := by omega
            rcases Nat.lt_or_ge pm e with c2 | c2
            · have d2 : ((pm : Nat) : Int) < ((e : Nat) : Int) := by omega
              have hp0 : p1 = true := by rw [Hp1.out, decide_eq_true c1, decide_eq_true c2]; rfl
              subst hp0
              go_wp2
              go_meet
              exact ⟨rfl, rfl⟩
            · have d2 : ¬ ((pm : Nat) : Int) < ((e : Nat) : Int) := by omega
              have hp0 : p1 = false := by rw [Hp1.out, decide_eq_false (show ¬ pm < e by omega), Bool.and_false]
              subst hp0
              go_wp2
              go_meet
              exact ⟨rfl, rfl⟩
          · have d1 : ¬ ((i : Nat) : Int) < ((pm : Nat) : Int) := by omega
            have hp0 : p1 = false := by rw [Hp1.out, decide_eq_false (show ¬ i < pm by omega), Bool.false_and]
            subst hp0
            go_wp2
            go_meet
            exact ⟨rfl, rfl⟩
        case rest =>
          obtain ⟨rfl, rfl⟩ := hcut
          go_upto_if 185 with fail
          go_cut [] (fun wx => Hid (RowC wx D off (P ++ ((U1 ++ V1) ++ ((U2 ++ V2) ++ S)))) ∧ Hid (GW D w wx))
          case first => as_aux_lemma =>
            cases p1 with
            | true =>
              have hq : i < pm ∧ pm < e := by
                have := Hp1.out.symm
                rw [Bool.and_eq_true, decide_eq_true_iff, decide_eq_true_iff] at this
                exact this
              have ha1 : (i : Int) = ((P ++ U1).length : Int) := by have := L1.out; rw [List.length_append]; omega
              have hR : Hid (RowC wo D off ((P ++ U1) ++ (U2 ++ (V1 ++ (V2 ++ S))))) := by
                have := HR1.out
                show RowC _ _ _ _
                rw [List.append_assoc]
                exact this
              have hQ := Lib.hid hq
              have HA1 := Lib.hid ha1
              clear hq ha1
              go_wp2_with fail
              refine (rotate_any D off n cap (P ++ U1) U2 V1 (V2 ++ S) _ _ _ _ wo hR.out (by have := LN.out; simp only [List.length_append]; omega) HA1.out (by have h1 := L1.out; have h2 := HA1.out; omega) (by have h1 := L1.out; have h2 := HA1.out; omega) (by have h1 := L1.out; have h2 := hQ.out; omega) (by have h1 := L1.out; have h2 := hQ.out; omega) hn8).mono ?_
              rintro r w1 ⟨rfl, hr, hg⟩
              have R1 : Hid (RowC w1 D off (P ++ ((U1 ++ V1) ++ ((U2 ++ V2) ++ S)))) := by
                show RowC _ _ _ _
                have := hr
                simp only [List.append_assoc] at this ⊢
                exact this
              have G1 := Lib.hid (HG.out.trans hg)
              clear hr hg
              go_wp2
              go_meet
              exact ⟨R1, G1⟩
            | false =>
              have hq : U2 = [] ∨ V1 = [] := by
                have h1 := Hp1.out.symm
                have h2 := L1.out
                rw [Bool.and_eq_false_iff, decide_eq_false_iff_not, decide_eq_false_iff_not] at h1
                rcases h1 with h1 | h1
                · exact .inl (List.length_eq_zero_iff.1 (by omega))
                · exact .inr (List.length_eq_zero_iff.1 (by omega))
              have R1 : Hid (RowC wo D off (P ++ ((U1 ++ V1) ++ ((U2 ++ V2) ++ S)))) := by
                show RowC _ _ _ _
                have := HR1.out
                rcases hq with rfl | rfl
                · simpa using this
                · simpa using this
              clear hq
              go_wp2
              go_meet
              exact ⟨R1, HG⟩
          case rest =>
            obtain ⟨R1, G1⟩ := hcut
            obtain ⟨w1, rfl⟩ : ∃ w1 : World, w1 = wc := ⟨_, rfl⟩
            go_upto_region 41 with fail
            go_cut [199] (fun c wx => c = .bool p2 ∧ w1 = wx)
            case first => as_aux_lemma =>
              rcases Nat.lt_or_ge pa i with c1 | c1
              · have d1 : ((pa : Nat) : Int) < ((i : Nat) : Int) := by omega
                rcases Nat.lt_or_ge i mid with c2 | c2
                · have d2 : ((i : Nat) : Int) < ((mid : Nat) : Int) := by omega
                  have hp0 : p2 = true := by rw [Hp2.out, decide_eq_true c1, decide_eq_true c2]; rfl
                  subst hp0
                  go_wp2
                  go_meet
                  exact ⟨rfl, rfl⟩
                · have d2 : ¬ ((i : Nat) : Int) < ((mid : Nat) : Int) := by omega
                  have hp0 : p2 = false := by rw [Hp2.out, decide_eq_false (show ¬ i < mid by omega), Bool.and_false]
                  subst hp0
                  go_wp2
                  go_meet
                  exact ⟨rfl, rfl⟩
              · have d1 : ¬ ((pa : Nat) : Int) < ((i : Nat) : Int) := by omega
                have hp0 : p2 = false := by rw [Hp2.out, decide_eq_false (show ¬ pa < i by omega), Bool.false_and]
                subst hp0
                go_wp2
                go_meet
                exact ⟨rfl, rfl⟩
            case rest =>
              obtain ⟨rfl, rfl⟩ := hcut
              go_upto_if 199 with fail
              go_cut [] (fun wx => Hid (RowC wx D off (P ++ (so (U1 ++ V1) ++ ((U2 ++ V2) ++ S)))) ∧ Hid (GW D w wx))
              case first => as_aux_lemma =>
                cases p2 with
                | true =>
                  have hq : pa < i ∧ i < mid := by
                    have := Hp2.out.symm
                    rw [Bool.and_eq_true, decide_eq_true_iff, decide_eq_true_iff] at this
                    exact this
                  have ea : (pa : Int) = (P.length : Int) := by have := HPA.out; omega
                  have em : (i : Int) = (P.length : Int) + U1.length := by have := L1.out; omega
                  have eb : (mid : Int) = (P.length : Int) + U1.length + V1.length := by have := L1.out; omega
                  have HO : Hid (SymO P U1 V1 (U2 ++ V2 ++ S) n (pa : Int) (i : Int) (mid : Int)) := by
                    show SymO _ _ _ _ _ _ _ _
                    rw [ea, em, eb]
                    have h2 := L1.out
                    have h3 := HPA.out
                    exact HO1.out (by omega) (by omega)
                  have HLN : Hid (U1.length + V1.length < N) := by
                    show _ < _
                    have h1 := LT.out
                    have h2 := L1.out
                    omega
                  clear hq ea em eb
                  go_wp2_with fail
                  refine (IH.out P U1 V1 (U2 ++ V2 ++ S) _ _ _ w1 HLN.out HO.out R1.out).mono ?_
                  rintro r w2 ⟨rfl, hr, hg⟩
                  have R2 := Lib.hid hr
                  have G2 := Lib.hid (G1.out.trans hg)
                  clear hr hg
                  go_wp2
                  go_meet
                  exact ⟨R2, G2⟩
                | false =>
                  have hq : U1.length = 0 ∨ V1.length = 0 := by
                    have h1 := Hp2.out.symm
                    have h2 := L1.out
                    have h3 := HPA.out
                    rw [Bool.and_eq_false_iff, decide_eq_false_iff_not, decide_eq_false_iff_not] at h1
                    omega
                  have R2 : Hid (RowC w1 D off (P ++ (so (U1 ++ V1) ++ ((U2 ++ V2) ++ S)))) := by
                    show RowC _ _ _ _
                    rw [HS1.out hq]
                    exact R1.out
                  clear hq
                  go_wp2
                  go_meet
                  exact ⟨R2, G1⟩
              case rest =>
                obtain ⟨R2, G2⟩ := hcut
                clear R1 G1
                obtain ⟨w2, rfl⟩ : ∃ w2 : World, w2 = wc := ⟨_, rfl⟩
                go_upto_region 43 with fail
                go_cut [213] (fun c wx => c = .bool p3 ∧ w2 = wx)
                case first => as_aux_lemma =>
                  rcases Nat.lt_or_ge mid e with c1 | c1
                  · have d1 : ((mid : Nat) : Int) < ((e : Nat) : Int) := by omega
                    rcases Nat.lt_or_ge e pb with c2 | c2
                    · have d2 : ((e : Nat) : Int) < ((pb : Nat) : Int) := by omega
                      have hp0 : p3 = true := by rw [Hp3.out, decide_eq_true c1, decide_eq_true c2]; rfl
                      subst hp0
                      go_wp2
                      go_meet
                      exact ⟨rfl, rfl⟩
                    · have d2 : ¬ ((e : Nat) : Int) < ((pb : Nat) : Int) := by omega
                      have hp0 : p3 = false := by rw [Hp3.out, decide_eq_false (show ¬ e < pb by omega), Bool.and_false]
                      subst hp0
                      go_wp2
                      go_meet
                      exact ⟨rfl, rfl⟩
                  · have d1 : ¬ ((mid : Nat) : Int) < ((e : Nat) : Int) := by omega
                    have hp0 : p3 = false := by rw [Hp3.out, decide_eq_false (show ¬ mid < e by omega), Bool.false_and]
                    subst hp0
                    go_wp2
                    go_meet
                    exact ⟨rfl, rfl⟩
                case rest =>
                  obtain ⟨rfl, rfl⟩ := hcut
                  cases p3 with
                  | true =>
                    have hq : mid < e ∧ e < pb := by
                      have := Hp3.out.symm
                      rw [Bool.and_eq_true, decide_eq_true_iff, decide_eq_true_iff] at this
                      exact this
                    have hpl : (P ++ so (U1 ++ V1)).length = mid := by rw [List.length_append, so_len, List.length_append]; have := L1.out; omega
                    have ea : (mid : Int) = ((P ++ so (U1 ++ V1)).length : Int) := by omega
                    have em : (e : Int) = ((P ++ so (U1 ++ V1)).length : Int) + U2.length := by have := L1.out; omega
                    have eb : (pb : Int) = ((P ++ so (U1 ++ V1)).length : Int) + U2.length + V2.length := by have := L1.out; omega
                    have HO : Hid (SymO (P ++ so (U1 ++ V1)) U2 V2 S n (mid : Int) (e : Int) (pb : Int)) := by
                      show SymO _ _ _ _ _ _ _ _
                      rw [ea, em, eb]
                      have h2 := L1.out
                      exact HO2.out (by omega) (by omega)
                    have HLN : Hid (U2.length + V2.length < N) := by
                      show _ < _
                      have h1 := LT.out
                      have h2 := L1.out
                      have h3 := HPA.out
                      omega
                    have R2' : Hid (RowC w2 D off ((P ++ so (U1 ++ V1)) ++ ((U2 ++ V2) ++ S))) := by
                      show RowC _ _ _ _
                      rw [List.append_assoc]
                      exact R2.out
                    clear hq hpl ea em eb
                    go_wp2_with fail
                    refine (IH.out (P ++ so (U1 ++ V1)) U2 V2 S _ _ _ w2 HLN.out HO.out R2'.out).mono ?_
                    rintro r w3 ⟨rfl, hr, hg⟩
                    have R3 := Lib.hid hr
                    have G3 := Lib.hid (G2.out.trans hg)
                    clear hr hg
                    go_wp2
                    go_end0
                    refine ⟨rfl, ?_, G3.out⟩
                    rw [HSD.out, List.append_assoc]
                    have := R3.out
                    rw [List.append_assoc] at this
                    exact this
                  | false =>
                    have hq : U2.length = 0 ∨ V2.length = 0 := by
                      have h1 := Hp3.out.symm
                      have h2 := L1.out
                      rw [Bool.and_eq_false_iff, decide_eq_false_iff_not, decide_eq_false_iff_not] at h1
                      omega
                    have HQ := Lib.hid hq
                    clear hq
                    go_wp2
                    go_end0
                    refine ⟨rfl, ?_, G2.out⟩
                    rw [HSD.out, HS2.out HQ.out, List.append_assoc]
                    exact R2.out
end Go.Proofs.YtbikdlcjbigafaaGreatDoor
namespace Go.Proofs.YtbikdlcjbigafaaGreatDoor
set_option linter.unusedVariables false
set_option linter.unusedSimpArgs false
open Go.ChangeShapes Go.WideShapes Go.ChangeAt Go.RowKit

theorem sym_any (D off n cap : Nat) : ∀ N, SymC D off n cap N
  | 0 => fun _ _ _ _ _ _ _ _ h => absurd h (by omega)
  | N + 1 => fun P U V S a m b w hN ho h => by
    by_cases hU1 : U.length = 1
    · obtain ⟨u, rfl⟩ := List.length_eq_one_iff.1 hU1
      have hb := ho.hb
      have hm := ho.hm
      simp only [List.length_singleton] at hb hm
      exact sym_left D off n cap P V S u a m b w h ho.hn ho.ha (by omega) (by omega) ho.sv (fun y hy => ho.ah u (by simp) y hy) ho.nb ho.n8
    · by_cases hV1 : V.length = 1
      · obtain ⟨v, rfl⟩ := List.length_eq_one_iff.1 hV1
        have hb := ho.hb
        simp only [List.length_singleton] at hb
        exact sym_right D off n cap P U S v a m b w h ho.hn ho.ha ho.hm (by omega) hU1 ho.su (fun x hx => ho.ah x hx v (by simp)) ho.nb ho.n8
      · exact sym_gen D off n cap N (sym_any D off n cap N) P U V S a m b w hN ho hU1 hV1 h
theorem Tg.sub {l m : List Trn} (h : Tg l) (s : m.Sublist l) : Tg m := List.Pairwise.sublist s h
theorem NoB.sub {l m : List Trn} (h : NoB l) (s : ∀ x ∈ m, x ∈ l) : NoB m := fun x hx => h x (s x hx)
theorem so_mem {l : List Trn} {x : Trn} (h : x ∈ so l) : x ∈ l := (so_perm l).subset h
/-- two blocks beside each other, as symMerge wants them. -/
theorem sym_of {P X Y S : List Trn} {n : Nat} {a m b : Int} (hT : Tg (X ++ Y)) (hB : NoB (X ++ Y)) (hn : n = (P ++ ((X ++ Y) ++ S)).length) (ha : a = (P.length : Int)) (hm : m = (P.length : Int) + X.length) (hb : b = (P.length : Int) + X.length + Y.length) (hx : 0 < X.length) (hy : 0 < Y.length) (h8 : n ≤ 100000) : SymO P (so X) (so Y) S n a m b := by
  obtain ⟨t1, t2, t3⟩ := List.pairwise_append.1 hT
  exact ⟨by simp only [List.length_append, so_len] at hn ⊢; exact hn, ha, by rw [so_len]; exact hm, by rw [so_len, so_len]; exact hb, by rw [so_len]; exact hx, by rw [so_len]; exact hy, so_sd (Tg.td t1), so_sd (Tg.td t2), (Tg.td t1).perm (so_perm _).symm, (Tg.td t2).perm (so_perm _).symm, fun x hx y hy => t3 x (so_mem hx) y (so_mem hy),
    fun x hx => hB x (by rcases List.mem_append.1 hx with h | h; exact List.mem_append_left _ (so_mem h); exact List.mem_append_right _ (so_mem h)), h8⟩
set_option maxHeartbeats 8000000 in
set_option maxRecDepth 100000 in
theorem stable_any (D off n cap : Nat) (l : List Trn) (w : World) (h : RowC w D off l) (hn : n = l.length) (hT : Tg l) (hB : NoB l) (hn8 : n ≤ 50000) :
    Calls Tryz.prog 118 #[.slice (some ⟨D, off, none⟩) n cap, .int .i64 n, .func (.func 71) #[] #[]] w fun e w' => e = .returned (.tuple #[]) ∧ RowC w' D off (so l) ∧ GW D w w' := by
  have HR := Lib.hid h
  have HN := Lib.hid hn
  have HT := Lib.hid hT
  have HB := Lib.hid hB
  clear h hn hT hB
  go_enter Tryz.func118, Tryz.ntmps118
  go_wp2
  go_loopw [7, 8] (fun a b wr => ∃ (ka : Nat) (A : List Trn), ka ≤ n ∧ a = .int .i64 ka ∧ b = .int .i64 ((ka : Int) + 20) ∧ Hid (A.length = ka ∧ bsL 20 l = A ++ bsL 20 (l.drop ka) ∧ RowC wr D off (A ++ l.drop ka)) ∧ Hid (GW D w wr)) (fun a _ _ => (n - intOf a).toNat)
  case atStart => exact ⟨0, [], Nat.zero_le _, rfl, rfl, ⟨rfl, rfl, HR.out⟩, GW.refl D w⟩
  case round =>
    obtain ⟨ka, A, hka, rfl, rfl, HA, HG⟩ := hrel
    obtain ⟨a1, a2, a3⟩ := HA.out
    obtain ⟨X, hX⟩ : ∃ X, X = l.drop ka := ⟨_, rfl⟩
    rw [← hX] at a2 a3
    have hXl : X.length = n - ka := by rw [hX, List.length_drop, HN.out]
    have hTX : Tg X := by rw [hX]; exact HT.out.sub (List.drop_sublist _ _)
    have hBX : NoB X := by rw [hX]; exact HB.out.sub fun x hx => List.mem_of_mem_drop hx
    by_cases hlt : ka + 20 ≤ n
    · have hlti : (ka : Int) + 20 ≤ (n : Int) := by omega
      have A1 := Lib.hid a1
      have A2 := Lib.hid a2
      have HXD := Lib.hid hX
      have HXL := Lib.hid hXl
      have A3 : Hid (RowC wr D off (A ++ (X.take 20 ++ X.drop 20))) := by show RowC _ _ _ _; rw [List.take_append_drop]; exact a3
      have hT2 := Lib.hid (hTX.sub (List.take_sublist 20 X))
      have hB2 : Hid (NoB (X.take 20)) := hBX.sub fun x hx => List.mem_of_mem_take hx
      clear a1 a2 a3 hX hXl hTX hBX HA
      go_wp2_with fail
      refine (insSort_any D off n cap A (X.take 20) (X.drop 20) _ _ wr A3.out (by have h1 := A1.out; have h2 := HXL.out; simp only [List.length_append, List.length_take, List.length_drop]; omega) (by have := A1.out; omega) (by have h1 := A1.out; have h2 := HXL.out; rw [List.length_take]; omega) hT2.out hB2.out (by omega)).mono ?_
      rintro r w1 ⟨rfl, hr, hg⟩
      have R1 := Lib.hid hr
      have G1 := Lib.hid (HG.out.trans hg)
      clear hr hg
      go_wp2
      go_roundw
      case rel =>
        refine ⟨ka + 20, A ++ so (X.take 20), hlt, by go_num, by first | rfl | (congr 1; omega) | go_num, ⟨?_, ?_, ?_⟩, G1⟩
        · have h1 := A1.out; have h2 := HXL.out; rw [List.length_append, so_len, List.length_take]; omega
        · rw [A2.out, bsL_step (k := 20) (l := X) (by have h2 := HXL.out; omega) (by omega), HXD.out, List.drop_drop, List.append_assoc]
        · have := R1.out
          rw [HXD.out, List.drop_drop, ← List.append_assoc] at this
          rw [HXD.out]
          exact this
      case measure => simp [intOf]; omega
    · have hlti : ¬ (ka : Int) + 20 ≤ (n : Int) := by omega
      have A1 := Lib.hid a1
      have A2 : Hid (bsL 20 l = A ++ so X) := by show _ = _; rw [a2, bsL_low (by omega)]
      have HXL := Lib.hid hXl
      have A3 : Hid (RowC wr D off (A ++ (X ++ []))) := by show RowC _ _ _ _; rw [List.append_nil]; exact a3
      have hT2 := Lib.hid hTX
      have hB2 := Lib.hid hBX
      clear a1 a2 a3 hX hXl hTX hBX HA
      go_wp2_with fail
      refine (insSort_any D off n cap A X [] _ _ wr A3.out (by have h1 := A1.out; have h2 := HXL.out; simp only [List.length_append, List.length_nil]; omega) (by have := A1.out; omega) (by have h1 := A1.out; have h2 := HXL.out; omega) hT2.out hB2.out (by omega)).mono ?_
      rintro r w1 ⟨rfl, hr, hg⟩
      have R1 : Hid (RowC w1 D off (bsL 20 l)) := by show RowC _ _ _ _; rw [A2.out]; rw [List.append_nil] at hr; exact hr
      have G1 := Lib.hid (HG.out.trans hg)
      clear hr hg A1 A2 A3 HXL hT2 hB2 HG hlti hlt hka
      go_wp2
      go_loopw [6, 7, 8, 9] (fun k _ _ _ wr => ∃ (kk : Nat), 20 ≤ kk ∧ kk ≤ 100000 ∧ k = .int .i64 kk ∧ Hid (RowC wr D off (bsL kk l)) ∧ Hid (GW D w wr)) (fun k _ _ _ _ => (n - intOf k).toNat)
      case atStart => exact ⟨20, Nat.le_refl _, by omega, rfl, R1, G1⟩
      case round =>
        obtain ⟨kk, hk1, hk2, rfl, HRk, HGk⟩ := hrel
        clear R1 G1
        by_cases hlt : kk < n
        · have hlti : (kk : Int) < (n : Int) := by omega
          obtain ⟨wo, rfl⟩ : ∃ wo : World, wo = wr := ⟨_, rfl⟩
          go_wp2
          go_loopw [7, 8] (fun a b wr => ∃ (ka : Nat) (A : List Trn), ka ≤ n ∧ a = .int .i64 ka ∧ b = .int .i64 ((ka : Int) + 2 * (kk : Int)) ∧ Hid (A.length = ka ∧ bsL (2 * kk) l = A ++ bsL (2 * kk) (l.drop ka) ∧ RowC wr D off (A ++ bsL kk (l.drop ka))) ∧ Hid (GW D w wr)) (fun a _ _ => (n - intOf a).toNat)
          case atStart => exact ⟨0, [], Nat.zero_le _, rfl, by first | rfl | (rw [Int.natCast_zero, Int.zero_add]) | (simp; done), ⟨rfl, rfl, HRk.out⟩, HGk⟩
          case round =>
            obtain ⟨ka, A, hka, rfl, rfl, HA, HG⟩ := hrel
            obtain ⟨a1, a2, a3⟩ := HA.out
            obtain ⟨X, hX⟩ : ∃ X, X = l.drop ka := ⟨_, rfl⟩
            rw [← hX] at a2 a3
            have hXl : X.length = n - ka := by rw [hX, List.length_drop, HN.out]
            have hTX : Tg X := by rw [hX]; exact HT.out.sub (List.drop_sublist _ _)
            have hBX : NoB X := by rw [hX]; exact HB.out.sub fun x hx => List.mem_of_mem_drop hx
            by_cases hle : ka + 2 * kk ≤ n
            · have hlei : (ka : Int) + 2 * (kk : Int) ≤ (n : Int) := by omega
              have A1 := Lib.hid a1
              have A2 := Lib.hid a2
              have HXD := Lib.hid hX
              have HXL := Lib.hid hXl
              have A3 : Hid (RowC wr D off (A ++ ((so (X.take kk) ++ so ((X.drop kk).take kk)) ++ bsL kk (X.drop (2 * kk))))) := by
                show RowC _ _ _ _
                rw [bs_pair (by omega) (by omega)] at a3
                rw [List.append_assoc]
                exact a3
              have hTT : Tg (X.take kk ++ (X.drop kk).take kk) := by rw [take_two]; exact hTX.sub (List.take_sublist _ _)
              have hBB : NoB (X.take kk ++ (X.drop kk).take kk) := by rw [take_two]; exact hBX.sub fun x hx => List.mem_of_mem_take hx
              have HO : Hid (SymO A (so (X.take kk)) (so ((X.drop kk).take kk)) (bsL kk (X.drop (2 * kk))) n (ka : Int) ((ka : Int) + (kk : Int)) ((ka : Int) + 2 * (kk : Int))) := by
                refine sym_of hTT hBB ?_ (by omega) ?_ ?_ ?_ ?_ (by omega)
                · simp only [List.length_append, bsL_len, List.length_take, List.length_drop]; omega
                · rw [List.length_take]; omega
                · rw [List.length_take, List.length_take, List.length_drop]; omega
                · rw [List.length_take]; omega
                · rw [List.length_take, List.length_drop]; omega
              have HSO : Hid (so (so (X.take kk) ++ so ((X.drop kk).take kk)) = so (X.take (2 * kk))) := by
                show _ = _
                rw [so_two (Tg.td hTT), take_two]
              clear a1 a2 a3 hX hXl hTX hBX HA hTT hBB
              go_wp2_with fail
              refine (sym_any D off n cap _ A _ _ _ _ _ _ wr (Nat.lt_succ_self _) HO.out A3.out).mono ?_
              rintro r w1 ⟨rfl, hr, hg⟩
              have R1 := Lib.hid hr
              have G1 := Lib.hid (HG.out.trans hg)
              clear hr hg
              go_wp2
              go_roundw
              case rel =>
                refine ⟨ka + 2 * kk, A ++ so (X.take (2 * kk)), hle, by go_num, by first | rfl | (congr 1; omega) | go_num, ⟨?_, ?_, ?_⟩, G1⟩
                · have h1 := A1.out; have h2 := HXL.out; rw [List.length_append, so_len, List.length_take]; omega
                · rw [A2.out, bsL_step (k := 2 * kk) (l := X) (by have h2 := HXL.out; omega) (by omega), HXD.out, List.drop_drop, List.append_assoc]
                · have := R1.out
                  rw [HSO.out, HXD.out, List.drop_drop, ← List.append_assoc] at this
                  rw [HXD.out]
                  exact this
              case measure => simp [intOf]; omega
            · have hlei : ¬ (ka : Int) + 2 * (kk : Int) ≤ (n : Int) := by omega
              have A1 := Lib.hid a1
              have A2 : Hid (bsL (2 * kk) l = A ++ so X) := by show _ = _; rw [a2, bsL_low (by omega)]
              have HXL := Lib.hid hXl
              by_cases hm : ka + kk < n
              · have hmi : (ka : Int) + (kk : Int) < (n : Int) := by omega
                have A3 : Hid (RowC wr D off (A ++ ((so (X.take kk) ++ so (X.drop kk)) ++ []))) := by
                  show RowC _ _ _ _
                  rw [bs_rest (by omega) (by omega)] at a3
                  rw [List.append_nil]
                  exact a3
                have hTT : Tg (X.take kk ++ X.drop kk) := by rw [List.take_append_drop]; exact hTX
                have hBB : NoB (X.take kk ++ X.drop kk) := by rw [List.take_append_drop]; exact hBX
                have HO : Hid (SymO A (so (X.take kk)) (so (X.drop kk)) [] n (ka : Int) ((ka : Int) + (kk : Int)) (n : Int)) := by
                  refine sym_of hTT hBB ?_ (by omega) ?_ ?_ ?_ ?_ (by omega)
                  · simp only [List.length_append, List.length_take, List.length_drop, List.length_nil]; omega
                  · rw [List.length_take]; omega
                  · rw [List.length_take, List.length_drop]; omega
                  · rw [List.length_take]; omega
                  · rw [List.length_drop]; omega
                have HSO : Hid (so (so (X.take kk) ++ so (X.drop kk)) = so X) := by
                  show _ = _
                  rw [so_two (Tg.td hTT), List.take_append_drop]
                clear a1 a2 a3 hX hXl hTX hBX HA hTT hBB
                go_wp2_with fail
                refine (sym_any D off n cap _ A _ _ _ _ _ _ wr (Nat.lt_succ_self _) HO.out A3.out).mono ?_
                rintro r w1 ⟨rfl, hr, hg⟩
                have R1 : Hid (RowC w1 D off (bsL (2 * kk) l)) := by show RowC _ _ _ _; rw [A2.out]; rw [HSO.out, List.append_nil] at hr; exact hr
                have G1 := Lib.hid (HG.out.trans hg)
                clear hr hg
                go_wp2
                go_roundw
                case rel => exact ⟨2 * kk, by omega, by omega, by first | go_num | (congr 1; omega), R1, G1⟩
                case measure => simp [intOf]; omega
              · have hmi : ¬ (ka : Int) + (kk : Int) < (n : Int) := by omega
                have R1 : Hid (RowC wr D off (bsL (2 * kk) l)) := by show RowC _ _ _ _; rw [A2.out]; rw [bsL_low (by omega)] at a3; exact a3
                clear a1 a2 a3 hX hXl hTX hBX HA
                go_wp2
                go_roundw
                case rel => exact ⟨2 * kk, by omega, by omega, by first | go_num | (congr 1; omega), R1, HG⟩
                case measure => simp [intOf]; omega
        · have hlti : ¬ (kk : Int) < (n : Int) := by omega
          have HF : Hid (RowC wr D off (so l)) := by
            have := HRk.out
            rw [bsL_low (by have := HN.out; omega)] at this
            exact this
          go_wp2
          go_end0
          exact ⟨rfl, HF.out, HGk.out⟩
set_option maxHeartbeats 1000000 in
theorem sortStable_any (D off n cap : Nat) (l : List Trn) (w : World) (h : RowC w D off l) (hn : n = l.length) (hT : Tg l) (hB : NoB l) (hn8 : n ≤ 50000) :
    Calls Tryz.prog 70 #[.slice (some ⟨D, off, none⟩) n cap, .func (.func 71) #[] #[]] w fun e w' => e = .returned (.tuple #[]) ∧ RowC w' D off (so l) ∧ GW D w w' := by
  have H := Lib.hid (stable_any D off n cap l w h hn hT hB hn8)
  clear h hn hT hB
  go_enter Tryz.func70, Tryz.ntmps70
  go_wp2_with fail
  refine H.out.mono ?_
  rintro r w1 ⟨rfl, hr, hg⟩
  have R1 := Lib.hid hr
  have G1 := Lib.hid hg
  clear hr hg
  go_wp2
  go_end0
  exact ⟨rfl, R1.out, G1.out⟩
set_option maxHeartbeats 2000000 in
theorem sortStable_nil (cap : Nat) (w : World) :
    Calls Tryz.prog 70 #[.slice none 0 cap, .func (.func 71) #[] #[]] w fun e w' => e = .returned (.tuple #[]) ∧ w = w' := by
  have HI : Hid (∀ w, Calls Tryz.prog 153 #[.slice none 0 cap, .int .i64 0, .int .i64 0, .func (.func 71) #[] #[]] w fun e w' => e = .returned (.tuple #[]) ∧ w = w') := by
    show ∀ w, _
    intro w
    go_enter Tryz.func153, Tryz.ntmps153
    go_wp2
    refine wp_loop_rounds 1 ?_
    rw [rounds_succ]
    go_wp2
    go_end0
    exact ⟨rfl, rfl⟩
  have HS : Hid (∀ w, Calls Tryz.prog 118 #[.slice none 0 cap, .int .i64 0, .func (.func 71) #[] #[]] w fun e w' => e = .returned (.tuple #[]) ∧ w = w') := by
    show ∀ w, _
    intro w
    go_enter Tryz.func118, Tryz.ntmps118
    go_wp2
    refine wp_loop_rounds 1 ?_
    rw [rounds_succ]
    go_wp2_with fail
    refine (HI.out _).mono ?_
    rintro r w1 ⟨rfl, rfl⟩
    go_wp2
    refine wp_loop_rounds 1 ?_
    rw [rounds_succ]
    go_wp2
    go_end0
    exact ⟨rfl, rfl⟩
  go_enter Tryz.func70, Tryz.ntmps70
  go_wp2_with fail
  refine (HS.out _).mono ?_
  rintro r w1 ⟨rfl, rfl⟩
  go_wp2
  go_end0
  exact ⟨rfl, rfl⟩
end Go.Proofs.YtbikdlcjbigafaaGreatDoor
