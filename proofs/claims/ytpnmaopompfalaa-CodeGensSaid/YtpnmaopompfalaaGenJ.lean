/-
  code.Gen: its state.
-/
import Derived.Deep.OwnRows
import Derived.Test.YtpnmaopompfalaaGenE
import Derived.Test.YtpnmaopompfalaaCodH
namespace Go.Proofs.Ytpnmaopompfalaa
set_option linter.unusedVariables false
set_option linter.unusedSimpArgs false
open Go.ChangeShapes Go.WideShapes Go.ChangeAt Go.RowKit

theorem blk_cell {w w' : World} {b : Nat} (h : w'.heap[b]? = w.heap[b]?) (o : Nat) : w'.cell? ⟨b, o, none⟩ = w.cell? ⟨b, o, none⟩ := World.cell?_of_block (a := ⟨b, o, none⟩) h
theorem blk_froz {w w' : World} {b : Nat} (h : w'.heap[b]? = w.heap[b]?) (o : Nat) : w'.frozen? ⟨b, o, none⟩ = w.frozen? ⟨b, o, none⟩ := World.frozen?_of_block (a := ⟨b, o, none⟩) h
theorem blk_lt {w : World} {b o : Nat} {v : Value} (h : w.cell? ⟨b, o, none⟩ = some v) : b < w.heap.size := by
  rcases Nat.lt_or_ge b w.heap.size with q | q
  · exact q
  · simp [World.cell?, Array.getElem?_eq_none q] at h
theorem own_off {w : World} {B n sz k : Nat} {e : TypeId} {v : Value} {xs : List Value} (h : w.ownsRow B e sz v n xs) (hk : k < B) : some k ≠ v.ownBlock := fun q => by have := (h.lt k q.symm).1; omega
theorem own_side {wx w' : World} {B n n' sz sz' : Nat} {e e' : TypeId} {v v' : Value} {xs xs' : List Value} {o : Obj} (h : wx.ownsRow B e sz v n xs) (h' : wx.ownsRow B e' sz' v' n' xs') (hne : e ≠ e') (hg : (wx.alloc o).grownBy w' v'.ownBlock) : w'.ownsRow B e sz v n xs := (h.alloc o).kept hg (own_apart h h' hne)
theorem row_low {wo wx w' : World} {B n sz : Nat} {t : TypeId} {v : Value} {xs : List Value} {o : Obj} (hown : wo.ownsRow B t sz v n xs) (hz : B ≤ wx.heap.size) (hg : (wx.alloc o).grownBy w' v.ownBlock) : Below B wx w' :=
  ((Below.refl B wx).alloc hz o).grown hg (Nat.le_trans hz (size_le_push_ wx o)) (fun k hk => (hown.lt k hk).1)
/-- a program's box. -/
def GnB (w : World) (b : Nat) (v0 v1 v2 : Value) : Prop := w.cell? ⟨b, 0, none⟩ = some v0 ∧ w.cell? ⟨b, 1, none⟩ = some v1 ∧ w.cell? ⟨b, 2, none⟩ = some v2 ∧ ∀ j, w.frozen? ⟨b, j, none⟩ = false
theorem GnB.lt {w : World} {b : Nat} {v0 v1 v2 : Value} (h : GnB w b v0 v1 v2) : b < w.heap.size := blk_lt h.1
theorem GnB.keep {w w' : World} {b : Nat} {v0 v1 v2 : Value} (h : GnB w b v0 v1 v2) (h1 : w'.heap[b]? = w.heap[b]?) : GnB w' b v0 v1 v2 := by
  obtain ⟨c0, c1, c2, f⟩ := h
  exact ⟨(blk_cell h1 _).trans c0, (blk_cell h1 _).trans c1, (blk_cell h1 _).trans c2, fun j => (blk_froz h1 _).trans (f j)⟩
theorem st_oth {w : World} {b i j : Nat} {u v : Value} (hne : j ≠ i) (hc : w.cell? ⟨b, j, none⟩ = some v) : (w.setCell ⟨b, i, none⟩ u).cell? ⟨b, j, none⟩ = some v := by
  rw [World.cell?_setCell_other (h := by simp [hne])]; exact hc
theorem st_same {w : World} {b i : Nat} {u v : Value} (hc : w.cell? ⟨b, i, none⟩ = some v) : (w.setCell ⟨b, i, none⟩ u).cell? ⟨b, i, none⟩ = some u := World.cell?_setCell_same (h := hc) ..
theorem st_fz {w : World} {b i : Nat} {u : Value} (f : ∀ j, w.frozen? ⟨b, j, none⟩ = false) : ∀ j, (w.setCell ⟨b, i, none⟩ u).frozen? ⟨b, j, none⟩ = false := fun j => by rw [World.frozen?_setCell]; exact f j
theorem GnB.set {w : World} {b : Nat} {v0 v1 v2 : Value} (h : GnB w b v0 v1 v2) (u : Value) :
    GnB (w.setCell ⟨b, 0, none⟩ u) b u v1 v2 ∧ GnB (w.setCell ⟨b, 1, none⟩ u) b v0 u v2 ∧ GnB (w.setCell ⟨b, 2, none⟩ u) b v0 v1 u := by
  obtain ⟨c0, c1, c2, f⟩ := h
  exact ⟨⟨st_same c0, st_oth (by omega) c1, st_oth (by omega) c2, st_fz f⟩, ⟨st_oth (by omega) c0, st_same c1, st_oth (by omega) c2, st_fz f⟩, ⟨st_oth (by omega) c0, st_oth (by omega) c1, st_same c2, st_fz f⟩⟩
def gX (x : Ins) : List Value := [.int .i64 x.op, .int .i64 x.n]
def gH (x : Nat × Nat) : List Value := [.int .i64 (x.1 : Int), .int .i64 (x.2 : Int)]
theorem gXs_one (l : List Ins) : ∀ u ∈ l.flatMap gX, u.oneCell' = true := by
  intro u hu
  obtain ⟨x, _, hx⟩ := List.mem_flatMap.1 hu
  simp [gX] at hx
  rcases hx with rfl | rfl <;> rfl
theorem gH_one (x : Nat × Nat) : ∀ u ∈ gH x, u.oneCell' = true := by
  intro u hu
  simp [gH] at hu
  rcases hu with rfl | rfl <;> rfl
theorem info_gi : (Try.prog.info? 71).map (fun i => (i.zero, i.size, i.bytes)) = some (some (.agg #[.int .i64 0, .int .i64 0]), 2, 16) := by kernel_rfl
theorem info_gh : (Try.prog.info? 111).map (fun i => (i.zero, i.size, i.bytes)) = some (some (.agg #[.int .i64 0, .int .i64 0]), 2, 16) := by kernel_rfl
theorem info_ga : (Try.prog.info? 27).map (fun i => (i.zero, i.size, i.bytes)) = some (some (.agg #[.int .i64 0, .bool false, .string ⟨#[]⟩, .slice none 0 0, .int .i64 0]), 5, 64) := by kernel_rfl
theorem kI_ne2 {t u : Int} (h : t ≠ u) : kI t ≠ kI u := by
  intro e
  unfold kI at e
  simp at e
  exact h e
/-- the map of the pool. -/
def PlM (D : DataW Unit) (pool : List Int) : Prop := Maps.IsMap D ∧ ∀ b : Int, Maps.has D (kI b) = decide (b ∈ pool) ∧ (b ∈ pool → D.atKey (kI b) (dI 0) = dI (pool.idxOf b))
theorem PlM.put {D : DataW Unit} {pool : List Int} (h : PlM D pool) {b : Int} (hb : b ∉ pool) : PlM (D.put (kI b) (dI pool.length)) (pool ++ [b]) := by
  refine ⟨h.1.put _ _, fun c => ?_⟩
  by_cases e : c = b
  · subst e
    refine ⟨by rw [Maps.has_put_same h.1 (kI_key _)]; simp, fun _ => ?_⟩
    rw [Maps.atKey_put_same h.1 (kI_key _), List.idxOf_append, if_neg hb]
    simp
  · obtain ⟨h1, h2⟩ := h.2 c
    refine ⟨by rw [Maps.has_put_other (kI_ne2 e), h1]; simp [e], fun hm => ?_⟩
    have hc : c ∈ pool := by simpa [e] using hm
    rw [Maps.atKey_put_other (kI_ne2 e), h2 hc, List.idxOf_append, if_pos hc]
/-- what lies beside the rows that grow. -/
def GnR (W1 : World) (F P S M B n : Nat) (wr : World) (st pool : List Int) : Prop :=
  wr.rowIs S 3 n (fun k => .int .i64 (st.getD k 0)) ∧ (∃ D, MpI wr M pool.length D ∧ PlM D pool) ∧ (∀ c, c < B → c ≠ P → c ≠ S → c ≠ M → wr.heap[c]? = W1.heap[c]?) ∧ Below F W1 wr ∧ st.length = n ∧ (F ≤ P ∧ P < S ∧ S < M ∧ M < B ∧ B ≤ wr.heap.size)
theorem mp_blk {w w' : World} {b n : Nat} {D : DataW Unit} (h : MpI w b n D) (e : w'.heap[b]? = w.heap[b]?) : MpI w' b n D := by
  obtain ⟨es, clock, hb, r⟩ := h
  exact ⟨es, clock, e.trans hb, r⟩
theorem GnR.below {W1 wx w' : World} {F P S M B n : Nat} {st pool : List Int} (h : GnR W1 F P S M B n wx st pool) (hB : Below B wx w') : GnR W1 F P S M B n w' st pool := by
  obtain ⟨h1, ⟨D, h2, h2'⟩, h3, h4, h5, h6, h7, h8, h9, h10⟩ := h
  exact ⟨h1.of_block (hB.block _ (by omega)), ⟨D, mp_blk h2 (hB.block _ (by omega)), h2'⟩, fun c a b d e => (hB.block c a).trans (h3 c a b d e), h4.trans (hB.mono (by omega)), h5, h6, h7, h8, h9, Nat.le_trans h10 hB.size⟩
theorem GnR.setP {W1 wx : World} {F P S M B n : Nat} {st pool : List Int} (h : GnR W1 F P S M B n wx st pool) (o : Nat) (u : Value) : GnR W1 F P S M B n (wx.setCell ⟨P, o, none⟩ u) st pool := by
  obtain ⟨h1, ⟨D, h2, h2'⟩, h3, h4, h5, h6, h7, h8, h9, h10⟩ := h
  have k : ∀ c, c ≠ P → (wx.setCell ⟨P, o, none⟩ u).heap[c]? = wx.heap[c]? := fun c hc => Below.heap_setCell _ _ _ _ hc
  exact ⟨h1.of_block (k _ (by omega)), ⟨D, mp_blk h2 (k _ (by omega)), h2'⟩, fun c a b d e => (k c b).trans (h3 c a b d e), h4.setCell (by show F ≤ P; omega) _, h5, h6, h7, h8, h9, by rw [World.size_setCell]; exact h10⟩
theorem GnR.start {W1 wx : World} {F P S M B n : Nat} {st pool : List Int} (h : GnR W1 F P S M B n wx st pool) {i : Nat} (hi : i < n) (v : Int) : GnR W1 F P S M B n (wx.setCell ⟨S, i, none⟩ (.int .i64 v)) (st.set i v) pool := by
  obtain ⟨h1, ⟨D, h2, h2'⟩, h3, h4, h5, h6, h7, h8, h9, h10⟩ := h
  have k : ∀ c, c ≠ S → (wx.setCell ⟨S, i, none⟩ (.int .i64 v)).heap[c]? = wx.heap[c]? := fun c hc => Below.heap_setCell _ _ _ _ hc
  refine ⟨(h1.set i _).congr fun j hj => ?_, ⟨D, mp_blk h2 (k _ (by omega)), h2'⟩, fun c a b d e => (k c d).trans (h3 c a b d e), h4.setCell (by show F ≤ S; omega) _, by rw [List.length_set]; exact h5, h6, h7, h8, h9, by rw [World.size_setCell]; exact h10⟩
  show (if j = i then Value.int .i64 v else .int .i64 (st.getD j 0)) = .int .i64 ((st.set i v).getD j 0)
  rw [List.getD_eq_getElem?_getD, List.getD_eq_getElem?_getD, List.getElem?_set]
  by_cases e : j = i
  · subst e
    rw [if_pos rfl, if_pos rfl, if_pos (by omega)]
    rfl
  · rw [if_neg e, if_neg (fun q => e q.symm)]
theorem GnR.mapped {W1 wx w' : World} {F P S M B n : Nat} {st pool : List Int} (h : GnR W1 F P S M B n wx st pool) {b : Int} {D : DataW Unit} (hm : MpI w' M (pool.length + 1) (D.put (kI b) (dI pool.length))) (hD : PlM D pool) (hb : b ∉ pool) (hg : wx.grownBy w' (some M)) : GnR W1 F P S M B n w' st (pool ++ [b]) := by
  obtain ⟨h1, _, h3, h4, h5, h6, h7, h8, h9, h10⟩ := h
  have k : ∀ c, c < B → c ≠ M → w'.heap[c]? = wx.heap[c]? := fun c a hc => hg.block c (by omega) (fun e => hc (Option.some.inj e))
  exact ⟨h1.of_block (k _ (by omega) (by omega)), ⟨_, by rw [List.length_append, List.length_singleton]; exact hm, hD.put hb⟩, fun c a b d e => (k c a e).trans (h3 c a b d e), h4.grown hg (by omega) (fun j e => by have := Option.some.inj e; omega), h5, h6, h7, h8, h9, Nat.le_trans h10 hg.size⟩
/-- the state of Gen's loop. -/
def GnS (W1 : World) (F P S M B n : Nat) (va : Value) (wr : World) (g : Gs) (vc vp vh : Value) : Prop :=
  GnB wr P vc vp va ∧ wr.ownsRow B 71 2 vc g.code.length (g.code.flatMap gX) ∧ wr.ownsRow B 3 1 vp g.pool.length (g.pool.flatMap encI) ∧ wr.ownsRow B 111 2 vh g.holes.length (g.holes.flatMap gH) ∧ GnR W1 F P S M B n wr g.start g.pool
/-- a node's box in a round. -/
def NdB (w : World) (N B : Nat) (x : Nod) : Prop := w.heap[N]? = some (.cells #[.bool x.lf, .int .i64 x.an, .int .i64 x.bd, .int .i64 x.ls, .int .i64 x.mr] 84 (0, 0)) ∧ B ≤ N
theorem NdB.facts {w : World} {N B : Nat} {x : Nod} (h : NdB w N B x) : w.cell? ⟨N, 0, none⟩ = some (.bool x.lf) ∧ w.cell? ⟨N, 1, none⟩ = some (.int .i64 x.an) ∧ w.cell? ⟨N, 2, none⟩ = some (.int .i64 x.bd) ∧ w.cell? ⟨N, 3, none⟩ = some (.int .i64 x.ls) ∧ w.cell? ⟨N, 4, none⟩ = some (.int .i64 x.mr) := by
  have hh := h.1
  exact ⟨by simp [World.cell?, hh], by simp [World.cell?, hh], by simp [World.cell?, hh], by simp [World.cell?, hh], by simp [World.cell?, hh]⟩
theorem NdB.lt {w : World} {N B : Nat} {x : Nod} (h : NdB w N B x) : N < w.heap.size := (Array.getElem?_eq_some_iff.1 h.1).1
theorem NdB.row {wx w' : World} {N B Bo n sz : Nat} {t : TypeId} {v : Value} {xs : List Value} {x : Nod} {o : Obj} (h : NdB wx N B x) (ho : wx.ownsRow Bo t sz v n xs) (ht : t ≠ 84) (hg : (wx.alloc o).grownBy w' v.ownBlock) : NdB w' N B x := by
  refine ⟨(hg.block N (Nat.lt_of_lt_of_le h.lt (size_le_push_ wx o)) fun e => ?_).trans ((Below.heap_alloc _ _ _ h.lt).trans h.1), h.2⟩
  rcases ho.2 with ⟨rfl, _⟩ | ⟨g, cap, cur, rfl, _, hh, _⟩
  · simp [Value.ownBlock] at e
  · obtain rfl : N = g := by simpa [Value.ownBlock] using e
    rw [h.1] at hh
    simp at hh
    exact ht hh.2.symm
theorem NdB.low {wx w' : World} {N B k : Nat} {x : Nod} (h : NdB wx N B x) (hk : k < B) (hg : wx.grownBy w' (some k)) : NdB w' N B x :=
  ⟨(hg.block N h.lt (fun e => by have := Option.some.inj e; have := h.2; omega)).trans h.1, h.2⟩
theorem NdB.set {wx : World} {N B k o : Nat} {x : Nod} {u : Value} (h : NdB wx N B x) (hk : k < B) : NdB (wx.setCell ⟨k, o, none⟩ u) N B x :=
  ⟨(Below.heap_setCell _ _ _ _ (by show N ≠ k; have := h.2; omega)).trans h.1, h.2⟩
theorem NdB.alloc {wx : World} {N B : Nat} {x : Nod} (h : NdB wx N B x) (o : Obj) : NdB (wx.alloc o) N B x := ⟨(Below.heap_alloc _ _ _ h.lt).trans h.1, h.2⟩
section
variable {W1 wx w' : World} {F P S M B n : Nat} {va vc vp vh : Value} {g : Gs}
theorem GnS.facts (h : GnS W1 F P S M B n va wx g vc vp vh) : wx.cell? ⟨P, 0, none⟩ = some vc ∧ wx.cell? ⟨P, 1, none⟩ = some vp ∧ wx.cell? ⟨P, 2, none⟩ = some va ∧ (∀ j, wx.frozen? ⟨P, j, none⟩ = false) ∧ P < wx.heap.size ∧ (∀ j, wx.frozen? ⟨S, j, none⟩ = false) ∧ S < wx.heap.size :=
  ⟨h.1.1, h.1.2.1, h.1.2.2.1, h.1.2.2.2, h.1.lt, h.2.2.2.2.1.frozen, h.2.2.2.2.1.lt⟩
theorem GnS.nums (h : GnS W1 F P S M B n va wx g vc vp vh) : F ≤ P ∧ P < S ∧ S < M ∧ M < B ∧ B ≤ wx.heap.size := h.2.2.2.2.2.2.2.2.2
theorem GnS.alloc (h : GnS W1 F P S M B n va wx g vc vp vh) (o : Obj) : GnS W1 F P S M B n va (wx.alloc o) g vc vp vh := by
  have hn := h.nums
  obtain ⟨h1, h2, h3, h4, h5⟩ := h
  exact ⟨h1.keep (Below.heap_alloc _ _ _ h1.lt), h2.alloc o, h3.alloc o, h4.alloc o, h5.below ((Below.refl _ _).alloc (by omega) o)⟩
theorem GnS.start (h : GnS W1 F P S M B n va wx g vc vp vh) {i : Nat} (hi : i < n) (v : Int) : GnS W1 F P S M B n va (wx.setCell ⟨S, i, none⟩ (.int .i64 v)) ⟨g.code, g.pool, g.start.set i v, g.holes⟩ vc vp vh := by
  have hn := h.nums
  obtain ⟨h1, h2, h3, h4, h5⟩ := h
  exact ⟨h1.keep (Below.heap_setCell _ _ _ _ (by show P ≠ S; omega)), ownsRow_setCell_below h2 (by show S < B; omega) _, ownsRow_setCell_below h3 (by show S < B; omega) _, ownsRow_setCell_below h4 (by show S < B; omega) _, h5.start hi v⟩
/-- more code. -/
theorem GnS.code (h : GnS W1 F P S M B n va wx g vc vp vh) {xs : List Ins} {m : Nat} {v' : Value} {o : Obj} (ho : w'.ownsRow B 71 2 v' m (g.code.flatMap gX ++ xs.flatMap gX)) (hm : m = g.code.length + xs.length) (hg : (wx.alloc o).grownBy w' vc.ownBlock) :
    GnB w' P vc vp va ∧ P < w'.heap.size ∧ GnS W1 F P S M B n va (w'.setCell ⟨P, 0, none⟩ v') ⟨g.code ++ xs, g.pool, g.start, g.holes⟩ v' vp vh := by
  have hn := h.nums
  obtain ⟨h1, h2, h3, h4, h5⟩ := h
  have hb := row_low h2 hn.2.2.2.2 hg
  have hB : GnB w' P vc vp va := h1.keep (hb.block _ (by omega))
  subst hm
  refine ⟨hB, hB.lt, (hB.set v').1, ?_, ownsRow_setCell_below (own_side h3 h2 (by decide) hg) (by show P < B; omega) _, ownsRow_setCell_below (own_side h4 h2 (by decide) hg) (by show P < B; omega) _, (h5.below hb).setP _ _⟩
  show (w'.setCell ⟨P, 0, none⟩ v').ownsRow B _ 2 v' (g.code ++ xs).length ((g.code ++ xs).flatMap gX)
  rw [List.length_append, List.flatMap_append]
  exact ownsRow_setCell_below ho (by show P < B; omega) _
/-- one more of the pool, told to the map ahead. -/
theorem GnS.pool (h : GnS W1 F P S M B n va wx g vc vp vh) {b : Int} {D : DataW Unit} {wm : World} (hm : MpI wm M (g.pool.length + 1) (D.put (kI b) (dI g.pool.length))) (hD : PlM D g.pool) (hb : b ∉ g.pool) (hgm : wx.grownBy wm (some M)) :
    GnB wm P vc vp va ∧ P < wm.heap.size ∧ wm.ownsRow B 3 1 vp g.pool.length (g.pool.flatMap encI) ∧ ∀ {v' : Value} {o : Obj}, w'.ownsRow B 3 1 v' (g.pool.length + 1) (g.pool.flatMap encI ++ encI b) → (wm.alloc o).grownBy w' vp.ownBlock →
    GnB w' P vc vp va ∧ P < w'.heap.size ∧ GnS W1 F P S M B n va (w'.setCell ⟨P, 1, none⟩ v') ⟨g.code, g.pool ++ [b], g.start, g.holes⟩ vc v' vh := by
  have hn := h.nums
  obtain ⟨h1, h2, h3, h4, h5⟩ := h
  have hBm : GnB wm P vc vp va := h1.keep (hgm.block _ (by omega) (fun e => by have := Option.some.inj e; omega))
  have k : ∀ {e : TypeId} {sz : Nat} {v : Value} {m : Nat} {l : List Value}, wx.ownsRow B e sz v m l → wm.ownsRow B e sz v m l := fun hr => hr.kept hgm (.inr (fun e => by have := (hr.lt M e).1; omega))
  have k3 := k h3
  refine ⟨hBm, hBm.lt, k3, fun {v' o} ho hg => ?_⟩
  have hz : B ≤ wm.heap.size := Nat.le_trans hn.2.2.2.2 hgm.size
  have hb' := row_low k3 hz hg
  have hB : GnB w' P vc vp va := hBm.keep (hb'.block _ (by omega))
  refine ⟨hB, hB.lt, (hB.set v').2.1, ownsRow_setCell_below (own_side (k h2) k3 (by decide) hg) (by show P < B; omega) _, ?_, ownsRow_setCell_below (own_side (k h4) k3 (by decide) hg) (by show P < B; omega) _, ((h5.mapped hm hD hb hgm).below hb').setP _ _⟩
  show (w'.setCell ⟨P, 1, none⟩ v').ownsRow B _ 1 v' (g.pool ++ [b]).length ((g.pool ++ [b]).flatMap encI)
  exact ownsRow_setCell_below (own_snocG ho) (by show P < B; omega) _
/-- one more hole. -/
theorem GnS.hole (h : GnS W1 F P S M B n va wx g vc vp vh) {x : Nat × Nat} {v' : Value} {o : Obj} (ho : w'.ownsRow B 111 2 v' (g.holes.length + 1) (g.holes.flatMap gH ++ gH x)) (hg : (wx.alloc o).grownBy w' vh.ownBlock) :
    GnS W1 F P S M B n va w' ⟨g.code, g.pool, g.start, g.holes ++ [x]⟩ vc vp v' := by
  have hn := h.nums
  obtain ⟨h1, h2, h3, h4, h5⟩ := h
  have hb := row_low h4 hn.2.2.2.2 hg
  exact ⟨h1.keep (hb.block _ (by omega)), own_side h2 h4 (by decide) hg, own_side h3 h4 (by decide) hg, own_snocG ho, h5.below hb⟩
end
end Go.Proofs.Ytpnmaopompfalaa
