/-
  code.Gen: its state.
  Code of a forest, plain: the bounds of what Gen computes.
  code.Gen of a forest that may not be.
  code.Gen: the copies of the answers.
-/
import Derived.Deep.OwnRows
import Derived.Test.YtlhidbbphngpcaaDoorGenA
import Derived.Test.YtlhidbbphngpcaaDoorCodH
import Derived.Test.YtlhidbbphngpcaaDoorTreeT
import Derived.Test.YtlhidbbphngpcaaDoorGenI
namespace Go.Proofs.YtlhidbbphngpcaaDoor
set_option linter.unusedVariables false
set_option linter.unusedSimpArgs false
open Go.ChangeShapes Go.WideShapes Go.ChangeAt Go.RowKit

theorem blk_cell {w w' : World} {b : Nat} (h : w'.heap[b]? = w.heap[b]?) (o : Nat) : w'.cell? ⟨b, o, none⟩ = w.cell? ⟨b, o, none⟩ := World.cell?_of_block (a := ⟨b, o, none⟩) h
theorem blk_froz {w w' : World} {b : Nat} (h : w'.heap[b]? = w.heap[b]?) (o : Nat) : w'.frozen? ⟨b, o, none⟩ = w.frozen? ⟨b, o, none⟩ := World.frozen?_of_block (a := ⟨b, o, none⟩) h
theorem blk_lt {w : World} {b o : Nat} {v : Value} (h : w.cell? ⟨b, o, none⟩ = some v) : b < w.heap.size := by
  rcases Nat.lt_or_ge b w.heap.size with q | q
  · exact q
  · simp [World.cell?, Array.getElem?_eq_none q] at h
theorem own_off {w : World} {B n sz k : Nat} {e : TypeId} {v : Value} {xs : List Value} (h : w.ownsRow B e sz v n xs) (hk : k < B) : some k ≠ v.ownBlock := fun q => by have := (h.lt k q.symm).1; omega
/-- a program's box. -/
def GnB (w : World) (b : Nat) (v0 v1 v2 : Value) : Prop := w.cell? ⟨b, 0, none⟩ = some v0 ∧ w.cell? ⟨b, 1, none⟩ = some v1 ∧ w.cell? ⟨b, 2, none⟩ = some v2 ∧ ∀ j, w.frozen? ⟨b, j, none⟩ = false
theorem GnB.lt {w : World} {b : Nat} {v0 v1 v2 : Value} (h : GnB w b v0 v1 v2) : b < w.heap.size := blk_lt h.1
theorem GnB.keep {w w' : World} {b : Nat} {v0 v1 v2 : Value} (h : GnB w b v0 v1 v2) (h1 : w'.heap[b]? = w.heap[b]?) : GnB w' b v0 v1 v2 := by
  obtain ⟨c0, c1, c2, f⟩ := h
  exact ⟨(blk_cell h1 _).trans c0, (blk_cell h1 _).trans c1, (blk_cell h1 _).trans c2, fun j => (blk_froz h1 _).trans (f j)⟩
theorem st_oth {w : World} {b i j : Nat} {u v : Value} (hne : j ≠ i) (hc : w.cell? ⟨b, j, none⟩ = some v) : (w.setCell ⟨b, i, none⟩ u).cell? ⟨b, j, none⟩ = some v := by
  rw [World.cell?_setCell_other (h := by simp [hne])]; exact hc
theorem st_same {w : World} {b i : Nat} {u v : Value} (hc : w.cell? ⟨b, i, none⟩ = some v) : (w.setCell ⟨b, i, none⟩ u).cell? ⟨b, i, none⟩ = some u := World.cell?_setCell_same (h := hc) ..
theorem st_fz {w : World} {b i : Nat} {u : Value} (f : ∀ j, w.frozen? ⟨b, j, none⟩ = false) : ∀ j, (w.setCell ⟨b, i, none⟩ u).frozen? ⟨b, j, none⟩ = false := fun j => by rw [World.frozen?_setCell]; exact f j
theorem GnB.set {w : World} {b : Nat} {v0 v1 v2 : Value} (h : GnB w b v0 v1 v2) (u : Value) :
    GnB (w.setCell ⟨b, 0, none⟩ u) b u v1 v2 ∧ GnB (w.setCell ⟨b, 1, none⟩ u) b v0 u v2 ∧ GnB (w.setCell ⟨b, 2, none⟩ u) b v0 v1 u := by
  obtain ⟨c0, c1, c2, f⟩ := h
  exact ⟨⟨st_same c0, st_oth (by omega) c1, st_oth (by omega) c2, st_fz f⟩, ⟨st_oth (by omega) c0, st_same c1, st_oth (by omega) c2, st_fz f⟩, ⟨st_oth (by omega) c0, st_oth (by omega) c1, st_same c2, st_fz f⟩⟩
def gX (x : Ins) : List Value := [.int .i64 x.op, .int .i64 x.n]
def gH (x : Nat × Nat) : List Value := [.int .i64 (x.1 : Int), .int .i64 (x.2 : Int)]
theorem gXs_one (l : List Ins) : ∀ u ∈ l.flatMap gX, u.oneCell' = true := by
  intro u hu
  obtain ⟨x, _, hx⟩ := List.mem_flatMap.1 hu
  simp [gX] at hx
  rcases hx with rfl | rfl <;> rfl
theorem gH_one (x : Nat × Nat) : ∀ u ∈ gH x, u.oneCell' = true := by
  intro u hu
  simp [gH] at hu
  rcases hu with rfl | rfl <;> rfl
theorem info_gi : (Tryd.prog.info? 39).map (fun i => (i.zero, i.size, i.bytes)) = some (some (.agg #[.int .i64 0, .int .i64 0]), 2, 16) := by kernel_rfl
theorem info_gh : (Tryd.prog.info? 100).map (fun i => (i.zero, i.size, i.bytes)) = some (some (.agg #[.int .i64 0, .int .i64 0]), 2, 16) := by kernel_rfl
theorem info_ga : (Tryd.prog.info? 79).map (fun i => (i.zero, i.size, i.bytes)) = some (some (.agg #[.int .i64 0, .bool false, .string ⟨#[]⟩, .slice none 0 0, .int .i64 0]), 5, 64) := by kernel_rfl
theorem kI_ne2 {t u : Int} (h : t ≠ u) : kI t ≠ kI u := by
  intro e
  unfold kI at e
  simp at e
  exact h e
/-- the map of the pool. -/
def PlM (D : DataW Unit) (pool : List Int) : Prop := Maps.IsMap D ∧ ∀ b : Int, Maps.has D (kI b) = decide (b ∈ pool) ∧ (b ∈ pool → D.atKey (kI b) (dI 0) = dI (pool.idxOf b))
theorem PlM.put {D : DataW Unit} {pool : List Int} (h : PlM D pool) {b : Int} (hb : b ∉ pool) : PlM (D.put (kI b) (dI pool.length)) (pool ++ [b]) := by
  refine ⟨h.1.put _ _, fun c => ?_⟩
  by_cases e : c = b
  · subst e
    refine ⟨by rw [Maps.has_put_same h.1 (kI_key _)]; simp, fun _ => ?_⟩
    rw [Maps.atKey_put_same h.1 (kI_key _), List.idxOf_append, if_neg hb]
    simp
  · obtain ⟨h1, h2⟩ := h.2 c
    refine ⟨by rw [Maps.has_put_other (kI_ne2 e), h1]; simp [e], fun hm => ?_⟩
    have hc : c ∈ pool := by simpa [e] using hm
    rw [Maps.atKey_put_other (kI_ne2 e), h2 hc, List.idxOf_append, if_pos hc]
/-- what lies beside the rows that grow. -/
def GnR (W1 : World) (F P S M B n : Nat) (wr : World) (st pool : List Int) : Prop :=
  wr.rowIs S 3 n (fun k => .int .i64 (st.getD k 0)) ∧ (∃ D, MpI wr M pool.length D ∧ PlM D pool) ∧ (∀ c, c < B → c ≠ P → c ≠ S → c ≠ M → wr.heap[c]? = W1.heap[c]?) ∧ Below F W1 wr ∧ st.length = n ∧ (F ≤ P ∧ P < S ∧ S < M ∧ M < B ∧ B ≤ wr.heap.size)
theorem mp_blk {w w' : World} {b n : Nat} {D : DataW Unit} (h : MpI w b n D) (e : w'.heap[b]? = w.heap[b]?) : MpI w' b n D := by
  obtain ⟨es, clock, hb, r⟩ := h
  exact ⟨es, clock, e.trans hb, r⟩
theorem GnR.below {W1 wx w' : World} {F P S M B n : Nat} {st pool : List Int} (h : GnR W1 F P S M B n wx st pool) (hB : Below B wx w') : GnR W1 F P S M B n w' st pool := by
  obtain ⟨h1, ⟨D, h2, h2'⟩, h3, h4, h5, h6, h7, h8, h9, h10⟩ := h
  exact ⟨h1.of_block (hB.block _ (by omega)), ⟨D, mp_blk h2 (hB.block _ (by omega)), h2'⟩, fun c a b d e => (hB.block c a).trans (h3 c a b d e), h4.trans (hB.mono (by omega)), h5, h6, h7, h8, h9, Nat.le_trans h10 hB.size⟩
theorem GnR.setP {W1 wx : World} {F P S M B n : Nat} {st pool : List Int} (h : GnR W1 F P S M B n wx st pool) (o : Nat) (u : Value) : GnR W1 F P S M B n (wx.setCell ⟨P, o, none⟩ u) st pool := by
  obtain ⟨h1, ⟨D, h2, h2'⟩, h3, h4, h5, h6, h7, h8, h9, h10⟩ := h
  have k : ∀ c, c ≠ P → (wx.setCell ⟨P, o, none⟩ u).heap[c]? = wx.heap[c]? := fun c hc => Below.heap_setCell _ _ _ _ hc
  exact ⟨h1.of_block (k _ (by omega)), ⟨D, mp_blk h2 (k _ (by omega)), h2'⟩, fun c a b d e => (k c b).trans (h3 c a b d e), h4.setCell (by show F ≤ P; omega) _, h5, h6, h7, h8, h9, by rw [World.size_setCell]; exact h10⟩
theorem GnR.start {W1 wx : World} {F P S M B n : Nat} {st pool : List Int} (h : GnR W1 F P S M B n wx st pool) {i : Nat} (hi : i < n) (v : Int) : GnR W1 F P S M B n (wx.setCell ⟨S, i, none⟩ (.int .i64 v)) (st.set i v) pool := by
  obtain ⟨h1, ⟨D, h2, h2'⟩, h3, h4, h5, h6, h7, h8, h9, h10⟩ := h
  have k : ∀ c, c ≠ S → (wx.setCell ⟨S, i, none⟩ (.int .i64 v)).heap[c]? = wx.heap[c]? := fun c hc => Below.heap_setCell _ _ _ _ hc
  refine ⟨(h1.set i _).congr fun j hj => ?_, ⟨D, mp_blk h2 (k _ (by omega)), h2'⟩, fun c a b d e => (k c d).trans (h3 c a b d e), h4.setCell (by show F ≤ S; omega) _, by rw [List.length_set]; exact h5, h6, h7, h8, h9, by rw [World.size_setCell]; exact h10⟩
  show (if j = i then Value.int .i64 v else .int .i64 (st.getD j 0)) = .int .i64 ((st.set i v).getD j 0)
  rw [List.getD_eq_getElem?_getD, List.getD_eq_getElem?_getD, List.getElem?_set]
  by_cases e : j = i
  · subst e
    rw [if_pos rfl, if_pos rfl, if_pos (by omega)]
    rfl
  · rw [if_neg e, if_neg (fun q => e q.symm)]
theorem GnR.mapped {W1 wx w' : World} {F P S M B n : Nat} {st pool : List Int} (h : GnR W1 F P S M B n wx st pool) {b : Int} {D : DataW Unit} (hm : MpI w' M (pool.length + 1) (D.put (kI b) (dI pool.length))) (hD : PlM D pool) (hb : b ∉ pool) (hg : wx.grownBy w' (some M)) : GnR W1 F P S M B n w' st (pool ++ [b]) := by
  obtain ⟨h1, _, h3, h4, h5, h6, h7, h8, h9, h10⟩ := h
  have k : ∀ c, c < B → c ≠ M → w'.heap[c]? = wx.heap[c]? := fun c a hc => hg.block c (by omega) (fun e => hc (Option.some.inj e))
  exact ⟨h1.of_block (k _ (by omega) (by omega)), ⟨_, by rw [List.length_append, List.length_singleton]; exact hm, hD.put hb⟩, fun c a b d e => (k c a e).trans (h3 c a b d e), h4.grown hg (by omega) (fun j e => by have := Option.some.inj e; omega), h5, h6, h7, h8, h9, Nat.le_trans h10 hg.size⟩
/-- the state of Gen's loop. -/
def GnS (W1 : World) (F P S M B n : Nat) (va : Value) (wr : World) (g : Gs) (vc vp vh : Value) : Prop :=
  GnB wr P vc vp va ∧ wr.ownsRow B 39 2 vc g.code.length (g.code.flatMap gX) ∧ wr.ownsRow B 3 1 vp g.pool.length (g.pool.flatMap encI) ∧ wr.ownsRow B 100 2 vh g.holes.length (g.holes.flatMap gH) ∧ GnR W1 F P S M B n wr g.start g.pool
/-- a node's box in a round. -/
def NdB (w : World) (N B : Nat) (x : Nod) : Prop := w.heap[N]? = some (.cells #[.bool x.lf, .int .i64 x.an, .int .i64 x.bd, .int .i64 x.ls, .int .i64 x.mr] 90 (0, 0)) ∧ B ≤ N
theorem NdB.facts {w : World} {N B : Nat} {x : Nod} (h : NdB w N B x) : w.cell? ⟨N, 0, none⟩ = some (.bool x.lf) ∧ w.cell? ⟨N, 1, none⟩ = some (.int .i64 x.an) ∧ w.cell? ⟨N, 2, none⟩ = some (.int .i64 x.bd) ∧ w.cell? ⟨N, 3, none⟩ = some (.int .i64 x.ls) ∧ w.cell? ⟨N, 4, none⟩ = some (.int .i64 x.mr) := by
  have hh := h.1
  exact ⟨by simp [World.cell?, hh], by simp [World.cell?, hh], by simp [World.cell?, hh], by simp [World.cell?, hh], by simp [World.cell?, hh]⟩
theorem NdB.lt {w : World} {N B : Nat} {x : Nod} (h : NdB w N B x) : N < w.heap.size := (Array.getElem?_eq_some_iff.1 h.1).1
theorem NdB.row {wx w' : World} {N B Bo n sz : Nat} {t : TypeId} {v : Value} {xs : List Value} {x : Nod} {o : Obj} (h : NdB wx N B x) (ho : wx.ownsRow Bo t sz v n xs) (ht : t ≠ 90) (hg : (wx.alloc o).grownBy w' v.ownBlock) : NdB w' N B x := by
  refine ⟨(hg.block N (Nat.lt_of_lt_of_le h.lt (size_le_push_ wx o)) fun e => ?_).trans ((Below.heap_alloc _ _ _ h.lt).trans h.1), h.2⟩
  rcases ho.2 with ⟨rfl, _⟩ | ⟨g, cap, cur, rfl, _, hh, _⟩
  · simp [Value.ownBlock] at e
  · obtain rfl : N = g := by simpa [Value.ownBlock] using e
    rw [h.1] at hh
    simp at hh
    exact ht hh.2.symm
theorem NdB.low {wx w' : World} {N B k : Nat} {x : Nod} (h : NdB wx N B x) (hk : k < B) (hg : wx.grownBy w' (some k)) : NdB w' N B x :=
  ⟨(hg.block N h.lt (fun e => by have := Option.some.inj e; have := h.2; omega)).trans h.1, h.2⟩
theorem NdB.set {wx : World} {N B k o : Nat} {x : Nod} {u : Value} (h : NdB wx N B x) (hk : k < B) : NdB (wx.setCell ⟨k, o, none⟩ u) N B x :=
  ⟨(Below.heap_setCell _ _ _ _ (by show N ≠ k; have := h.2; omega)).trans h.1, h.2⟩
theorem NdB.alloc {wx : World} {N B : Nat} {x : Nod} (h : NdB wx N B x) (o : Obj) : NdB (wx.alloc o) N B x := ⟨(Below.heap_alloc _ _ _ h.lt).trans h.1, h.2⟩
section
variable {W1 wx w' : World} {F P S M B n : Nat} {va vc vp vh : Value} {g : Gs}
theorem GnS.facts (h : GnS W1 F P S M B n va wx g vc vp vh) : wx.cell? ⟨P, 0, none⟩ = some vc ∧ wx.cell? ⟨P, 1, none⟩ = some vp ∧ wx.cell? ⟨P, 2, none⟩ = some va ∧ (∀ j, wx.frozen? ⟨P, j, none⟩ = false) ∧ P < wx.heap.size ∧ (∀ j, wx.frozen? ⟨S, j, none⟩ = false) ∧ S < wx.heap.size :=
  ⟨h.1.1, h.1.2.1, h.1.2.2.1, h.1.2.2.2, h.1.lt, h.2.2.2.2.1.frozen, h.2.2.2.2.1.lt⟩
theorem GnS.nums (h : GnS W1 F P S M B n va wx g vc vp vh) : F ≤ P ∧ P < S ∧ S < M ∧ M < B ∧ B ≤ wx.heap.size := h.2.2.2.2.2.2.2.2.2
theorem GnS.alloc (h : GnS W1 F P S M B n va wx g vc vp vh) (o : Obj) : GnS W1 F P S M B n va (wx.alloc o) g vc vp vh := by
  have hn := h.nums
  obtain ⟨h1, h2, h3, h4, h5⟩ := h
  exact ⟨h1.keep (Below.heap_alloc _ _ _ h1.lt), h2.alloc o, h3.alloc o, h4.alloc o, h5.below ((Below.refl _ _).alloc (by omega) o)⟩
theorem GnS.start (h : GnS W1 F P S M B n va wx g vc vp vh) {i : Nat} (hi : i < n) (v : Int) : GnS W1 F P S M B n va (wx.setCell ⟨S, i, none⟩ (.int .i64 v)) ⟨g.code, g.pool, g.start.set i v, g.holes⟩ vc vp vh := by
  have hn := h.nums
  obtain ⟨h1, h2, h3, h4, h5⟩ := h
  exact ⟨h1.keep (Below.heap_setCell _ _ _ _ (by show P ≠ S; omega)), ownsRow_setCell_below h2 (by show S < B; omega) _, ownsRow_setCell_below h3 (by show S < B; omega) _, ownsRow_setCell_below h4 (by show S < B; omega) _, h5.start hi v⟩
/-- more code. -/
theorem GnS.code (h : GnS W1 F P S M B n va wx g vc vp vh) {xs : List Ins} {m : Nat} {v' : Value} {o : Obj} (ho : w'.ownsRow B 39 2 v' m (g.code.flatMap gX ++ xs.flatMap gX)) (hm : m = g.code.length + xs.length) (hg : (wx.alloc o).grownBy w' vc.ownBlock) :
    GnB w' P vc vp va ∧ P < w'.heap.size ∧ GnS W1 F P S M B n va (w'.setCell ⟨P, 0, none⟩ v') ⟨g.code ++ xs, g.pool, g.start, g.holes⟩ v' vp vh := by
  have hn := h.nums
  obtain ⟨h1, h2, h3, h4, h5⟩ := h
  have hb := row_low h2 hn.2.2.2.2 hg
  have hB : GnB w' P vc vp va := h1.keep (hb.block _ (by omega))
  subst hm
  refine ⟨hB, hB.lt, (hB.set v').1, ?_, ownsRow_setCell_below (own_side h3 h2 (by decide) hg) (by show P < B; omega) _, ownsRow_setCell_below (own_side h4 h2 (by decide) hg) (by show P < B; omega) _, (h5.below hb).setP _ _⟩
  show (w'.setCell ⟨P, 0, none⟩ v').ownsRow B _ 2 v' (g.code ++ xs).length ((g.code ++ xs).flatMap gX)
  rw [List.length_append, List.flatMap_append]
  exact ownsRow_setCell_below ho (by show P < B; omega) _
/-- one more of the pool, told to the map ahead. -/
theorem GnS.pool (h : GnS W1 F P S M B n va wx g vc vp vh) {b : Int} {D : DataW Unit} {wm : World} (hm : MpI wm M (g.pool.length + 1) (D.put (kI b) (dI g.pool.length))) (hD : PlM D g.pool) (hb : b ∉ g.pool) (hgm : wx.grownBy wm (some M)) :
    GnB wm P vc vp va ∧ P < wm.heap.size ∧ wm.ownsRow B 3 1 vp g.pool.length (g.pool.flatMap encI) ∧ ∀ {v' : Value} {o : Obj}, w'.ownsRow B 3 1 v' (g.pool.length + 1) (g.pool.flatMap encI ++ encI b) → (wm.alloc o).grownBy w' vp.ownBlock →
    GnB w' P vc vp va ∧ P < w'.heap.size ∧ GnS W1 F P S M B n va (w'.setCell ⟨P, 1, none⟩ v') ⟨g.code, g.pool ++ [b], g.start, g.holes⟩ vc v' vh := by
  have hn := h.nums
  obtain ⟨h1, h2, h3, h4, h5⟩ := h
  have hBm : GnB wm P vc vp va := h1.keep (hgm.block _ (by omega) (fun e => by have := Option.some.inj e; omega))
  have k : ∀ {e : TypeId} {sz : Nat} {v : Value} {m : Nat} {l : List Value}, wx.ownsRow B e sz v m l → wm.ownsRow B e sz v m l := fun hr => hr.kept hgm (.inr (fun e => by have := (hr.lt M e).1; omega))
  have k3 := k h3
  refine ⟨hBm, hBm.lt, k3, fun {v' o} ho hg => ?_⟩
  have hz : B ≤ wm.heap.size := Nat.le_trans hn.2.2.2.2 hgm.size
  have hb' := row_low k3 hz hg
  have hB : GnB w' P vc vp va := hBm.keep (hb'.block _ (by omega))
  refine ⟨hB, hB.lt, (hB.set v').2.1, ownsRow_setCell_below (own_side (k h2) k3 (by decide) hg) (by show P < B; omega) _, ?_, ownsRow_setCell_below (own_side (k h4) k3 (by decide) hg) (by show P < B; omega) _, ((h5.mapped hm hD hb hgm).below hb').setP _ _⟩
  show (w'.setCell ⟨P, 1, none⟩ v').ownsRow B _ 1 v' (g.pool ++ [b]).length ((g.pool ++ [b]).flatMap encI)
  exact ownsRow_setCell_below (own_snocG ho) (by show P < B; omega) _
/-- one more hole. -/
theorem GnS.hole (h : GnS W1 F P S M B n va wx g vc vp vh) {x : Nat × Nat} {v' : Value} {o : Obj} (ho : w'.ownsRow B 100 2 v' (g.holes.length + 1) (g.holes.flatMap gH ++ gH x)) (hg : (wx.alloc o).grownBy w' vh.ownBlock) :
    GnS W1 F P S M B n va w' ⟨g.code, g.pool, g.start, g.holes ++ [x]⟩ vc vp v' := by
  have hn := h.nums
  obtain ⟨h1, h2, h3, h4, h5⟩ := h
  have hb := row_low h4 hn.2.2.2.2 hg
  exact ⟨h1.keep (hb.block _ (by omega)), own_side h2 h4 (by decide) hg, own_side h3 h4 (by decide) hg, own_snocG ho, h5.below hb⟩
end
end Go.Proofs.YtlhidbbphngpcaaDoor
namespace Go.Proofs.YtlhidbbphngpcaaDoor
set_option linter.unusedVariables false
set_option linter.unusedSimpArgs false
open Go.ChangeShapes Go.WideShapes Go.ChangeAt Go.RowKit

/-- what holds of Gen's state when the nodes below k are to come. -/
def GOk (ns : List Nod) (k : Nat) (g : Gs) : Prop :=
  (∀ x ∈ g.code, I64 x.op ∧ I64 x.n) ∧ (∀ b ∈ g.pool, I64 b) ∧ (∀ s ∈ g.start, 0 ≤ s ∧ s ≤ 40000) ∧ (∀ h ∈ g.holes, h.2 < ns.length) ∧ g.start.length = ns.length ∧ HOk g ∧ g.code.length + 5 * k ≤ 5 * ns.length ∧ g.pool.length + k ≤ ns.length ∧ g.holes.length + 2 * k ≤ 2 * ns.length
theorem I64c {n : Int} (h : 0 ≤ n ∧ n ≤ 100000) : I64 n := i64_of (by omega) (by omega)
theorem poolK_le (pool : List Int) (b : Int) : poolK pool b ≤ pool.length := by
  unfold poolK
  split
  · exact Nat.le_of_lt (List.idxOf_lt_length_of_mem (by assumption))
  · exact Nat.le_refl _
theorem poolP_ok {pool : List Int} {b : Int} (h : ∀ c ∈ pool, I64 c) (hb : I64 b) : (∀ c ∈ poolP pool b, I64 c) ∧ (poolP pool b).length ≤ pool.length + 1 := by
  unfold poolP
  split
  · exact ⟨h, by omega⟩
  · refine ⟨fun c hc => ?_, by simp⟩
    rcases List.mem_append.1 hc with q | q
    · exact h c q
    · rw [List.mem_singleton.1 q]; exact hb
theorem GOk.step {ns : List Nod} {ak : List Bool} {i : Nat} {g : Gs} (h : GOk ns (i + 1) g) (hi : i < ns.length) (hn : ns.length ≤ 8000) (h64 : ∀ x ∈ ns, I64 x.an ∧ I64 x.bd ∧ I64 x.ls ∧ I64 x.mr) (hc : Chl ns) : GOk ns i (gStep ns ak i g) := by
  have hok := step_hok (ns := ns) (ak := ak) (i := i) h.2.2.2.2.2.1
  obtain ⟨h1, h2, h3, h4, h5, h6, h7, h8, h9⟩ := h
  have hst : ∀ s ∈ g.start.set i g.code.length, 0 ≤ s ∧ s ≤ 40000 := fun s hs => by
    rcases List.mem_or_eq_of_mem_set hs with q | q
    · exact h3 s q
    · subst q; omega
  have hsl : (g.start.set i (g.code.length : Int)).length = ns.length := by rw [List.length_set]; exact h5
  unfold gStep at hok ⊢
  split at hok
  · rename_i ha
    rw [if_pos ha]
    rw [List.getElem?_eq_getElem hi] at hok ⊢
    dsimp only at hok ⊢
    obtain ⟨m1, m2, m3, m4⟩ := h64 ns[i] (List.getElem_mem hi)
    by_cases hl : ns[i].lf = true
    · rw [if_pos hl] at hok ⊢
      refine ⟨fun x hx => ?_, h2, hst, h4, hsl, hok, ?_, ?_, ?_⟩
      · rcases List.mem_append.1 hx with q | q
        · exact h1 x q
        · rw [List.mem_singleton.1 q]; exact ⟨show I64 6 from I64c (by decide), m1⟩
      · rw [List.length_append, List.length_singleton]; omega
      · show g.pool.length + i ≤ _; omega
      · show g.holes.length + 2 * i ≤ _; omega
    · rw [if_neg hl] at hok ⊢
      obtain ⟨c1, c2, c3, c4⟩ := hc i hi (by simpa using hl)
      obtain ⟨p1, p2⟩ := poolP_ok h2 m2
      have hpk := poolK_le g.pool ns[i].bd
      have hk : I64 ((poolK g.pool ns[i].bd : Nat) : Int) := I64c (by omega)
      unfold gAsk at hok ⊢
      split at hok
      · rename_i hf
        rw [if_pos hf]
        refine ⟨fun x hx => ?_, p1, hst, fun x hx => ?_, hsl, hok, ?_, ?_, ?_⟩
        · rcases List.mem_append.1 hx with q | q
          · exact h1 x q
          · simp at q
            rcases q with rfl | rfl | rfl | rfl | rfl <;> exact ⟨I64c (by dsimp only; omega), by first | exact hk | exact i64_zero⟩
        · rcases List.mem_append.1 hx with q | q
          · exact h4 x q
          · simp at q
            rcases q with rfl | rfl <;> (dsimp only; omega)
        · rw [List.length_append]; simp only [List.length_cons, List.length_nil]; omega
        · show (poolP g.pool ns[i].bd).length + i ≤ _; omega
        · rw [List.length_append]; simp only [List.length_cons, List.length_nil]; omega
      · rename_i hf
        rw [if_neg hf]
        refine ⟨fun x hx => ?_, p1, hst, fun x hx => ?_, hsl, hok, ?_, ?_, ?_⟩
        · rcases List.mem_append.1 hx with q | q
          · exact h1 x q
          · simp at q
            rcases q with rfl | rfl | rfl | rfl <;> exact ⟨I64c (by dsimp only; omega), by first | exact hk | exact i64_zero⟩
        · rcases List.mem_append.1 hx with q | q
          · exact h4 x q
          · simp at q
            subst q
            dsimp only; omega
        · rw [List.length_append]; simp only [List.length_cons, List.length_nil]; omega
        · show (poolP g.pool ns[i].bd).length + i ≤ _; omega
        · rw [List.length_append]; simp only [List.length_cons, List.length_nil]; omega
  · rename_i ha
    rw [if_neg ha]
    exact ⟨h1, h2, h3, h4, h5, h6, by omega, by omega, by omega⟩
theorem GOk.start (ns : List Nod) : GOk ns ns.length (gen0 ns.length) := by
  refine ⟨fun x hx => by simp [gen0] at hx, fun x hx => by simp [gen0] at hx, fun s hs => ?_, fun x hx => by simp [gen0] at hx, by simp [gen0], ⟨List.Pairwise.nil, fun x hx => by simp [gen0] at hx⟩, by simp [gen0], by simp [gen0], by simp [gen0]⟩
  simp [gen0] at hs
  omega
theorem flat_setX : ∀ (c : List Ins) (i : Nat) (v : Int), i < c.length → (c.flatMap gX).set (i * 2 + 1) (.int .i64 v) = (c.set i ⟨(c.getD i ⟨0, 0⟩).op, v⟩).flatMap gX
  | x :: c, 0, v, _ => rfl
  | x :: c, i + 1, v, h => by
    have ih := flat_setX c i v (by simpa using h)
    have e : (i + 1) * 2 + 1 = (i * 2 + 1) + 1 + 1 := by omega
    show ((Value.int .i64 x.op) :: (Value.int .i64 x.n) :: c.flatMap gX).set ((i + 1) * 2 + 1) (.int .i64 v) = (Value.int .i64 x.op) :: (Value.int .i64 x.n) :: (c.set i ⟨(c.getD i ⟨0, 0⟩).op, v⟩).flatMap gX
    rw [e, List.set_cons_succ, List.set_cons_succ, ih]
theorem patch1_len (st : List Int) (c : List Ins) (h : Nat × Nat) : (patch1 st c h).length = c.length := by unfold patch1; rw [List.length_set]
theorem start_at {st : List Int} (h : ∀ s ∈ st, 0 ≤ s ∧ s ≤ 40000) (j : Nat) : 0 ≤ st.getD j 0 ∧ st.getD j 0 ≤ 40000 := by
  rw [List.getD_eq_getElem?_getD]
  rcases Nat.lt_or_ge j st.length with q | q
  · rw [List.getElem?_eq_getElem q]; exact h _ (List.getElem_mem q)
  · rw [List.getElem?_eq_none q]; exact ⟨by decide, by decide⟩
theorem patch1_ok {st : List Int} {c : List Ins} {h : Nat × Nat} (hs : ∀ s ∈ st, 0 ≤ s ∧ s ≤ 40000) (hc : ∀ x ∈ c, I64 x.op ∧ I64 x.n) (hl : c.length ≤ 100000) (hh : h.1 < c.length) : ∀ x ∈ patch1 st c h, I64 x.op ∧ I64 x.n := by
  intro x hx
  unfold patch1 at hx
  rcases List.mem_or_eq_of_mem_set hx with q | q
  · exact hc x q
  · subst q
    have := start_at hs h.2
    refine ⟨?_, i64_of (by dsimp only; omega) (by dsimp only; omega)⟩
    rw [List.getD_eq_getElem?_getD, List.getElem?_eq_getElem hh]
    exact (hc _ (List.getElem_mem hh)).1
theorem patch_ok {st : List Int} (hs : ∀ s ∈ st, 0 ≤ s ∧ s ≤ 40000) : ∀ (hl : List (Nat × Nat)) (c : List Ins), (∀ x ∈ c, I64 x.op ∧ I64 x.n) → c.length ≤ 100000 → (∀ h ∈ hl, h.1 < c.length) → ∀ x ∈ patch st c hl, I64 x.op ∧ I64 x.n
  | [], c, hc, _, _ => hc
  | h :: hl, c, hc, hn, hh => patch_ok hs hl (patch1 st c h) (patch1_ok hs hc hn (hh h List.mem_cons_self)) (by rw [patch1_len]; exact hn) (fun a ha => by rw [patch1_len]; exact hh a (List.mem_cons_of_mem _ ha))
theorem patch_take {st : List Int} {c : List Ins} {hl : List (Nat × Nat)} {k : Nat} (hk : k < hl.length) : patch st c (hl.take (k + 1)) = patch1 st (patch st c (hl.take k)) hl[k] := by
  rw [List.take_add_one, List.getElem?_eq_getElem hk]
  unfold patch
  rw [List.foldl_append]
  rfl
end Go.Proofs.YtlhidbbphngpcaaDoor
namespace Go.Proofs.YtlhidbbphngpcaaDoor
set_option linter.unusedVariables false
set_option linter.unusedSimpArgs false
open Go.ChangeShapes Go.WideShapes Go.ChangeAt Go.RowKit

/-- Gen's two first boxes: the forest, the result. -/
def GnQ (w wx : World) (vn va : Value) : Prop := wx.cell? ⟨w.heap.size, 0, none⟩ = some vn ∧ wx.cell? ⟨w.heap.size, 1, none⟩ = some va ∧ GnB wx (w.heap.size + 1) (.slice none 0 0) (.slice none 0 0) (.slice none 0 0) ∧ Below w.heap.size w wx ∧ w.heap.size + 2 ≤ wx.heap.size
theorem GnQ.new (w : World) (vn va : Value) (t t' : TypeId) : GnQ w ((w.alloc (.cells #[vn, va] t)).alloc (.cells #[.slice none 0 0, .slice none 0 0, .slice none 0 0] t')) vn va := by
  obtain ⟨h1, h2, h3, h4, h5⟩ := two_new w #[vn, va] #[.slice none 0 0, .slice none 0 0, .slice none 0 0] t t'
  exact ⟨h2 0, h2 1, ⟨h3 0, h3 1, h3 2, h5⟩, below_alloc2 (Nat.le_refl _) _ _, by rw [h1]; exact Nat.le_refl _⟩
theorem GnQ.keep {w wx w' : World} {vn va : Value} (h : GnQ w wx vn va) (h0 : w'.heap[w.heap.size]? = wx.heap[w.heap.size]?) (h1 : w'.heap[w.heap.size + 1]? = wx.heap[w.heap.size + 1]?) (hB : Below w.heap.size wx w') : GnQ w w' vn va :=
  ⟨(blk_cell h0 _).trans h.1, (blk_cell h0 _).trans h.2.1, h.2.2.1.keep h1, h.2.2.2.1.trans hB, Nat.le_trans h.2.2.2.2 hB.size⟩
theorem GnQ.below {w wx w' : World} {vn va : Value} (h : GnQ w wx vn va) (hB : Below wx.heap.size wx w') : GnQ w w' vn va :=
  h.keep (hB.block _ (by have := h.2.2.2.2; omega)) (hB.block _ (by have := h.2.2.2.2; omega)) (hB.mono (by have := h.2.2.2.2; omega))
theorem GnQ.facts {w wx : World} {vn va : Value} (h : GnQ w wx vn va) : wx.cell? ⟨w.heap.size, 0, none⟩ = some vn ∧ wx.cell? ⟨w.heap.size, 1, none⟩ = some va ∧ w.heap.size < wx.heap.size := ⟨h.1, h.2.1, by have := h.2.2.2.2; omega⟩
theorem GnQ.res {w wx : World} {vn va : Value} (h : GnQ w wx vn va) : wx.cell? ⟨w.heap.size + 1, 0, none⟩ = some (.slice none 0 0) ∧ wx.cell? ⟨w.heap.size + 1, 1, none⟩ = some (.slice none 0 0) ∧ wx.cell? ⟨w.heap.size + 1, 2, none⟩ = some (.slice none 0 0) ∧ (∀ j, wx.frozen? ⟨w.heap.size + 1, j, none⟩ = false) ∧ w.heap.size + 1 < wx.heap.size :=
  ⟨h.2.2.1.1, h.2.2.1.2.1, h.2.2.1.2.2.1, h.2.2.1.2.2.2, h.2.2.1.lt⟩
theorem check_lit (f : Frs) (vn va : Value) (w : World) (hf : FrsAt w vn va f) {e : Int} (h : frsE f = e) :
    Calls Tryd.prog 38 #[.agg #[vn, va]] w fun r w' => r = .returned (.int .i64 e) ∧ Below w.heap.size w w' := h ▸ check_any f vn va w hf
set_option maxRecDepth 100000 in
set_option maxHeartbeats 4000000 in
theorem gen_bad (vn va : Value) (f : Frs) (w : World) (hf : FrsAt w vn va f) {e : Int} (h : frsE f = e) (he : e ≠ 0) :
    Calls Tryd.prog 30 #[.agg #[vn, va]] w fun e' w' => e' = .returned (.tuple #[.agg #[.slice none 0 0, .slice none 0 0, .slice none 0 0], .int .i64 e]) ∧ Below w.heap.size w w' := by
  have Q0 := Lib.hid (GnQ.new w vn va 64 35)
  have HF := Lib.hid hf
  have HE := Lib.hid h
  clear hf h
  go_enter Tryd.func30, Tryd.ntmps30
  go_wp2_with fail
  refine (check_lit f vn va _ (HF.out.mono (by exact Q0.out.2.2.2.1)) HE.out).mono ?_; rintro r w1 ⟨rfl, hb1⟩
  have Q1 := Lib.hid (Q0.out.below hb1)
  obtain ⟨r0, r1, r2, r3, r4⟩ := Q1.out.res
  clear hb1
  go_wp2
  have HB : Hid (Below w.heap.size w w1) := Q1.out.2.2.2.1
  refine bodyPost_ret (v := .tuple #[.agg #[.slice none 0 0, .slice none 0 0, .slice none 0 0], .int .i64 e]) (by simp [results, Tryd.results30, go_sem, r0, r1, r2, r4]) rfl ⟨rfl, ?_⟩
  exact ((HB.out.setCell (by show w.heap.size ≤ w.heap.size + 1; omega) _).setCell (by show w.heap.size ≤ w.heap.size + 1; omega) _).setCell (by show w.heap.size ≤ w.heap.size + 1; omega) _
end Go.Proofs.YtlhidbbphngpcaaDoor
namespace Go.Proofs.YtlhidbbphngpcaaDoor
set_option linter.unusedVariables false
set_option linter.unusedSimpArgs false
open Go.ChangeShapes Go.WideShapes Go.ChangeAt Go.RowKit

/-- the state of the first loop. -/
def GnA (w1 wr : World) (va : Value) (l : List (Ans × Value)) : Prop := AnG wr (w1.heap.size + 1) va l ∧ GnB wr w1.heap.size (.slice none 0 0) (.slice none 0 0) va ∧ Below w1.heap.size w1 wr ∧ w1.heap.size + 1 ≤ wr.heap.size
theorem GnA.facts {w1 wr : World} {va : Value} {l : List (Ans × Value)} (h : GnA w1 wr va l) : wr.cell? ⟨w1.heap.size, 0, none⟩ = some (.slice none 0 0) ∧ wr.cell? ⟨w1.heap.size, 1, none⟩ = some (.slice none 0 0) ∧ wr.cell? ⟨w1.heap.size, 2, none⟩ = some va ∧ (∀ j, wr.frozen? ⟨w1.heap.size, j, none⟩ = false) ∧ w1.heap.size < wr.heap.size :=
  ⟨h.2.1.1, h.2.1.2.1, h.2.1.2.2.1, h.2.1.2.2.2, h.2.1.lt⟩
theorem GnA.start (w1 : World) (t : TypeId) : GnA w1 (w1.alloc (.cells #[.slice none 0 0, .slice none 0 0, .slice none 0 0] t)) (.slice none 0 0) [] :=
  ⟨AnG.nil _ _, ⟨World.cell?_alloc_at (w := w1) _ _ w1.heap.size 0 rfl, World.cell?_alloc_at (w := w1) _ _ w1.heap.size 1 rfl, World.cell?_alloc_at (w := w1) _ _ w1.heap.size 2 rfl, fun j => World.frozen?_alloc_at (w := w1) _ _ w1.heap.size j rfl⟩, (Below.refl _ _).alloc (Nat.le_refl _) _, by rw [size_alloc]; exact Nat.le_refl _⟩
/-- behind the copy of an answer's offsets, the copy stored in the answer's box. -/
theorem GnA.copied {w1 wr w2 : World} {va v' : Value} {l : List (Ans × Value)} {x0 x1 x2 x3 x4 : Value} {t : TypeId} {m : Nat} {xs : List Value} (h : GnA w1 wr va l) (hb : Below (wr.alloc (.cells #[x0, x1, x2, x3, x4] t)).heap.size (wr.alloc (.cells #[x0, x1, x2, x3, x4] t)) w2) (hv : w2.ownsRow (wr.alloc (.cells #[x0, x1, x2, x3, x4] t)).heap.size 3 1 v' m xs) :
    (w2.cell? ⟨wr.heap.size, 0, none⟩ = some x0 ∧ w2.cell? ⟨wr.heap.size, 1, none⟩ = some x1 ∧ w2.cell? ⟨wr.heap.size, 2, none⟩ = some x2 ∧ w2.cell? ⟨wr.heap.size, 3, none⟩ = some x3 ∧ w2.cell? ⟨wr.heap.size, 4, none⟩ = some x4 ∧ (∀ j, w2.frozen? ⟨wr.heap.size, j, none⟩ = false) ∧ wr.heap.size < w2.heap.size) ∧
    GnA w1 (w2.setCell ⟨wr.heap.size, 3, none⟩ v') va l ∧ (w2.setCell ⟨wr.heap.size, 3, none⟩ v').ownsRow (w1.heap.size + 1) 3 1 v' m xs ∧ w1.heap.size ≠ wr.heap.size := by
  obtain ⟨h1, h2, h3, h4⟩ := h
  have hs := size_alloc wr (.cells #[x0, x1, x2, x3, x4] t)
  have hbz := hb.size
  have hc : ∀ j, w2.cell? ⟨wr.heap.size, j, none⟩ = (wr.alloc (.cells #[x0, x1, x2, x3, x4] t)).cell? ⟨wr.heap.size, j, none⟩ := fun j => hb.cell (p := ⟨wr.heap.size, j, none⟩) (by rw [hs]; exact Nat.lt_succ_self _)
  have hc2 : ∀ j, (wr.alloc (.cells #[x0, x1, x2, x3, x4] t)).cell? ⟨wr.heap.size, j, none⟩ = #[x0, x1, x2, x3, x4][j]? := fun j => World.cell?_alloc_at (w := wr) _ _ wr.heap.size j rfl
  have hf : ∀ j, w2.frozen? ⟨wr.heap.size, j, none⟩ = false := fun j => (hb.frozen (p := ⟨wr.heap.size, j, none⟩) (by rw [hs]; exact Nat.lt_succ_self _)).trans (World.frozen?_alloc_at (w := wr) _ _ wr.heap.size j rfl)
  have k : ∀ c, c < wr.heap.size → (w2.setCell ⟨wr.heap.size, 3, none⟩ v').heap[c]? = wr.heap[c]? := fun c hc => (Below.heap_setCell _ _ _ _ (by show c ≠ wr.heap.size; omega)).trans ((hb.block c (by omega)).trans (Below.heap_alloc _ _ _ hc))
  have hB : Below wr.heap.size wr (w2.setCell ⟨wr.heap.size, 3, none⟩ v') := (((Below.refl _ _).alloc (Nat.le_refl _) _).trans (hb.mono (by omega))).setCell (by show wr.heap.size ≤ wr.heap.size; omega) _
  refine ⟨⟨(hc 0).trans (hc2 0), (hc 1).trans (hc2 1), (hc 2).trans (hc2 2), (hc 3).trans (hc2 3), (hc 4).trans (hc2 4), hf, by omega⟩, ⟨h1.mv fun c _ hc => k c hc, h2.keep (k _ (by omega)), h3.trans (hB.mono (by omega)), Nat.le_trans h4 hB.size⟩, ?_, by omega⟩
  exact ownsRow_base (by omega) (ownsRow_setCell_below hv (by show wr.heap.size < _; omega) _)
/-- one more answer. -/
theorem GnA.more {w1 wx w' : World} {va va' : Value} {l : List (Ans × Value)} {y : Ans × Value} {o : Obj} (h : GnA w1 wx va l) (hy : wx.ownsRow (w1.heap.size + 1) 3 1 y.2 y.1.offs.length (y.1.offs.flatMap encI)) (ho : w'.ownsRow (w1.heap.size + 1) 79 5 va' (l.length + 1) (l.flatMap encW ++ encW y)) (hg : (wx.alloc o).grownBy w' va.ownBlock) :
    (w'.cell? ⟨w1.heap.size, 2, none⟩ = some va ∧ (∀ j, w'.frozen? ⟨w1.heap.size, j, none⟩ = false) ∧ w1.heap.size < w'.heap.size) ∧ GnA w1 (w'.setCell ⟨w1.heap.size, 2, none⟩ va') va' (l ++ [y]) := by
  obtain ⟨h1, h2, h3, h4⟩ := h
  have hb := row_low h1.1 h4 hg
  have hB := h2.keep (hb.block _ (Nat.lt_succ_self _))
  have hA := h1.snoc hy ho hg
  refine ⟨⟨hB.2.2.1, hB.2.2.2, hB.lt⟩, ⟨hA.mv fun c hc _ => Below.heap_setCell _ _ _ _ (by show c ≠ w1.heap.size; omega), (hB.set va').2.2, (h3.trans (hb.mono (Nat.le_succ _))).setCell (Nat.le_refl _) _, ?_⟩⟩
  rw [World.size_setCell]
  exact Nat.le_trans h4 hb.size
end Go.Proofs.YtlhidbbphngpcaaDoor
