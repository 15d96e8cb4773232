/-
  tree.Inverse: what is told at a number.
-/
import Derived.Test.YtbikdlcjbigafaaGreatDoorJInvC
namespace Go.Proofs.YtbikdlcjbigafaaGreatDoor
set_option linter.unusedVariables false
set_option linter.unusedSimpArgs false
open Go.ChangeShapes Go.WideShapes Go.ChangeAt Go.RowKit Go.Shelf
attribute [local go_sem] Oper.semAt_some

/-- an answer's box that was made: its offsets are vo, its jump is j. -/
def ABx (W : World) (B : Nat) (vo : Value) (j : Int) : Prop := W.heap[B]? = some (.cells #[.int .i64 0, .bool false, .string ⟨#[]⟩, vo, .int .i64 j] 79 (0, 0))
theorem ABx.lt {W : World} {B : Nat} {vo : Value} {j : Int} (h : ABx W B vo j) : B < W.heap.size := (Array.getElem?_eq_some_iff.1 h).1
theorem ABx.cell {W : World} {B : Nat} {vo : Value} {j : Int} (h : ABx W B vo j) (i : Nat) : W.cell? ⟨B, i, none⟩ = #[Value.int .i64 0, .bool false, .string ⟨#[]⟩, vo, .int .i64 j][i]? := by
  unfold World.cell?
  rw [show W.heap[B]? = _ from h]
  rfl
theorem ABx.frozen {W : World} {B : Nat} {vo : Value} {j : Int} (h : ABx W B vo j) (i : Nat) : W.frozen? ⟨B, i, none⟩ = false := by simp [World.frozen?, show W.heap[B]? = _ from h]
theorem ABx.setO {W : World} {B : Nat} {vo : Value} {j : Int} (h : ABx W B vo j) (u : Value) : ABx (W.setCell ⟨B, 3, none⟩ u) B u j := by
  simp [ABx, World.setCell, Array.getElem?_modify, show W.heap[B]? = _ from h]
theorem ABx.setJ {W : World} {B : Nat} {vo : Value} {j : Int} (h : ABx W B vo j) (u : Int) : ABx (W.setCell ⟨B, 4, none⟩ (.int .i64 u)) B vo u := by
  simp [ABx, World.setCell, Array.getElem?_modify, show W.heap[B]? = _ from h]
theorem ABx.kept {W W' : World} {B : Nat} {vo : Value} {j : Int} {row : Option Nat} (h : ABx W B vo j) (hg : W.grownBy W' row) (hne : some B ≠ row) : ABx W' B vo j := (hg.block B h.lt hne).trans h
theorem abx_own {β : Type} (B : Nat) (vo : Value) (j : β → Int) : Own (fun s W => ABx W B vo (j s)) := fun s X Y row hs hg hrow =>
  hs.kept hg (fun e' => by obtain ⟨o, ho, hc⟩ := hrow B e'.symm; rw [show X.heap[B]? = _ from hs] at ho; cases ho; cases hc)
theorem keeps_drewN (W : World) (n : Nat) : KeepsOthers W (W.drewN n) := ⟨Nat.le_refl _, fun _ _ h _ => h⟩
/-- a row of the call's own is no record of a loop's. -/
theorem own_notD {w : World} {B n sz D : Nat} {e : TypeId} {v : Value} {xs : List Value} {ds : Option (List Deferred)} (h : w.ownsRow B e sz v n xs) (hD : w.heap[D]? = some (.deferred ds)) : some D ≠ v.ownBlock := by
  obtain ⟨_, h⟩ := h
  rcases h with ⟨rfl, _⟩ | ⟨g, cap, cur, rfl, _, hh, _⟩
  · intro e'; cases e'
  · intro e'
    have : D = g := by simpa [Value.ownBlock] using e'
    subst this
    rw [hD] at hh
    cases hh
/-- where the rounds over the spans stand. -/
structure TlS (w : World) (lc : Int) (D : Nat) (wr : World) (vo : Value) (jv : Int) (ys : List Int) : Prop where
  ax : ABx wr (w.heap.size + 1) vo jv
  bx : Boxed wr w.heap.size 3 (.int .i64 lc)
  ow : wr.ownsRow (w.heap.size + 2) 3 1 vo ys.length (ys.flatMap encI)
  lo : Below w.heap.size w wr
  dk : wr.heap[D]? = some (.deferred (some []))
  sz : w.heap.size + 2 ≤ wr.heap.size
theorem TlS.alloc {w : World} {lc : Int} {D : Nat} {wr : World} {vo : Value} {jv : Int} {ys : List Int} (h : TlS w lc D wr vo jv ys) (o : Obj) : TlS w lc D (wr.alloc o) vo jv ys :=
  ⟨h.ax.kept (World.grownBy_alloc wr o none) (by simp), h.bx.alloc o, h.ow.alloc o, h.lo.alloc h.lo.size o, (Below.heap_alloc _ _ _ (Array.getElem?_eq_some_iff.1 h.dk).1).trans h.dk, Nat.le_trans h.sz (size_le_push_ wr o)⟩
theorem TlS.draws {w : World} {lc : Int} {D : Nat} {wr : World} {vo : Value} {jv : Int} {ys : List Int} (h : TlS w lc D wr vo jv ys) (n : Nat) : TlS w lc D (wr.drewN n) vo jv ys :=
  ⟨h.ax, h.bx, by have := h.ow; exact this, below_draws h.lo n, h.dk, h.sz⟩
theorem TlS.app {w : World} {lc : Int} {D : Nat} {wr w' : World} {vo v' : Value} {jv x : Int} {ys : List Int} {o : Obj} (h : TlS w lc D wr vo jv ys) (hown : w'.ownsRow (w.heap.size + 2) 3 1 v' (ys.length + 1) (ys.flatMap encI ++ [.int .i64 x])) (hg : (wr.alloc o).grownBy w' vo.ownBlock) :
    ABx w' (w.heap.size + 1) vo jv ∧ TlS w lc D (w'.setCell ⟨w.heap.size + 1, 3, none⟩ v') v' jv (ys ++ [x]) := by
  have ha := h.alloc o
  have hn : ∀ c, c < w.heap.size + 2 → some c ≠ vo.ownBlock := fun c hc e => by
    have := (h.ow.lt c e.symm).1
    omega
  have h1 : ABx w' (w.heap.size + 1) vo jv := ha.ax.kept hg (hn _ (by omega))
  have h2 : Boxed w' w.heap.size 3 (.int .i64 lc) := ha.bx.kept hg (hn _ (by omega))
  have hd : w'.heap[D]? = some (.deferred (some [])) := (hg.block D (Array.getElem?_eq_some_iff.1 ha.dk).1 (own_notD h.ow h.dk)).trans ha.dk
  refine ⟨h1, h1.setO v', (Below.heap_setCell _ _ _ _ (by show w.heap.size ≠ w.heap.size + 1; omega)).trans h2, ownsRow_setCell_below (own_snoc hown) (by show w.heap.size + 1 < w.heap.size + 2; omega) _, ?_, ?_, ?_⟩
  · exact (ha.lo.grown hg ha.lo.size (fun k hk => by have := (h.ow.lt k hk).1; omega)).setCell (p := ⟨w.heap.size + 1, 3, none⟩) (by show w.heap.size ≤ w.heap.size + 1; omega) _
  · refine (Below.heap_setCell _ _ _ _ ?_).trans hd
    show D ≠ w.heap.size + 1
    intro e
    subst e
    rw [h1] at hd
    cases hd
  · rw [World.size_setCell]
    exact Nat.le_trans ha.sz hg.size
theorem TlS.jump {w : World} {lc : Int} {D : Nat} {wr : World} {vo : Value} {jv : Int} {ys : List Int} (h : TlS w lc D wr vo jv ys) (u : Int) : TlS w lc D (wr.setCell ⟨w.heap.size + 1, 4, none⟩ (.int .i64 u)) vo u ys := by
  refine ⟨h.ax.setJ u, (Below.heap_setCell _ _ _ _ (by show w.heap.size ≠ w.heap.size + 1; omega)).trans h.bx, ownsRow_setCell_below h.ow (by show w.heap.size + 1 < w.heap.size + 2; omega) _, h.lo.setCell (p := ⟨w.heap.size + 1, 4, none⟩) (by show w.heap.size ≤ w.heap.size + 1; omega) _, ?_, by rw [World.size_setCell]; exact h.sz⟩
  refine (Below.heap_setCell _ _ _ _ ?_).trans h.dk
  show D ≠ w.heap.size + 1
  intro e
  have := h.dk
  rw [e, show wr.heap[w.heap.size + 1]? = _ from h.ax] at this
  cases this
/-- what the rows of the call's own hold: F the forest's box, F + 1 the pieces' box. -/
structure InS (w1 : World) (F : Nat) (w : World) (va vp : Value) (al : List (Ans × Value)) (pl : List Pc) : Prop where
  f0 : w.cell? ⟨F, 0, none⟩ = some (.slice none 0 0)
  f1 : w.cell? ⟨F, 1, none⟩ = some va
  p0 : w.cell? ⟨F + 1, 0, none⟩ = some vp
  fz : ∀ j, w.frozen? ⟨F, j, none⟩ = false
  pz : ∀ j, w.frozen? ⟨F + 1, j, none⟩ = false
  an : AnG w (F + 2) va al
  ps : w.ownsRow (F + 2) 110 2 vp pl.length (pl.flatMap encP)
  sz : F + 2 ≤ w.heap.size
  lo : Below F w1 w
theorem InS.below {w1 w w' : World} {F : Nat} {va vp : Value} {al : List (Ans × Value)} {pl : List Pc} (h : InS w1 F w va vp al pl) (hb : Below w.heap.size w w') : InS w1 F w' va vp al pl := by
  have z := h.sz
  exact ⟨(hb.cell (p := ⟨F, 0, none⟩) (by show F < _; omega)).trans h.f0, (hb.cell (p := ⟨F, 1, none⟩) (by show F < _; omega)).trans h.f1, (hb.cell (p := ⟨F + 1, 0, none⟩) (by show F + 1 < _; omega)).trans h.p0, fun j => (hb.frozen (p := ⟨F, j, none⟩) (by show F < _; omega)).trans (h.fz j), fun j => (hb.frozen (p := ⟨F + 1, j, none⟩) (by show F + 1 < _; omega)).trans (h.pz j),
    h.an.mv fun c _ hc => hb.block c hc, own_mv h.ps fun c _ hc => hb.block c hc, Nat.le_trans z hb.size, h.lo.trans (hb.mono (by omega))⟩
/-- behind the append of an answer. -/
theorem InS.app1 {w1 w w' : World} {F : Nat} {va vp v' : Value} {al : List (Ans × Value)} {pl : List Pc} {y : Ans × Value} {o : Obj} (h : InS w1 F w va vp al pl) (hy : w.ownsRow (F + 2) 3 1 y.2 y.1.offs.length (y.1.offs.flatMap encI)) (ho : w'.ownsRow (F + 2) 79 5 v' (al.length + 1) (al.flatMap encW ++ encW y)) (hg : (w.alloc o).grownBy w' va.ownBlock) :
    (w'.cell? ⟨F, 1, none⟩ = some va ∧ (∀ j, w'.frozen? ⟨F, j, none⟩ = false) ∧ F < w'.heap.size) ∧ InS w1 F (w'.setCell ⟨F, 1, none⟩ v') v' vp (al ++ [y]) pl := by
  have z := h.sz
  have hb : Below (F + 2) w w' := row_low h.an.1 z hg
  have c0 := (hb.cell (p := ⟨F, 0, none⟩) (by show F < _; omega)).trans h.f0
  have c1 := (hb.cell (p := ⟨F, 1, none⟩) (by show F < _; omega)).trans h.f1
  have c2 := (hb.cell (p := ⟨F + 1, 0, none⟩) (by show F + 1 < _; omega)).trans h.p0
  have f0 : ∀ j, w'.frozen? ⟨F, j, none⟩ = false := fun j => (hb.frozen (p := ⟨F, j, none⟩) (by show F < _; omega)).trans (h.fz j)
  have f1 : ∀ j, w'.frozen? ⟨F + 1, j, none⟩ = false := fun j => (hb.frozen (p := ⟨F + 1, j, none⟩) (by show F + 1 < _; omega)).trans (h.pz j)
  have hs := hb.size
  have hA := h.an.snoc hy ho hg
  have hP := own_side h.ps h.an.1 (by decide) hg
  refine ⟨⟨c1, f0, by omega⟩, ?_, World.cell?_setCell_same (h := c1) .., ?_, ?_, ?_, ?_, ?_, ?_, ?_⟩
  · rw [World.cell?_setCell_other (h := by simp)]; exact c0
  · rw [World.cell?_setCell_other (h := by simp)]; exact c2
  · intro j; rw [World.frozen?_setCell]; exact f0 j
  · intro j; rw [World.frozen?_setCell]; exact f1 j
  · exact ⟨ownsRow_setCell_below hA.1 (by show F < F + 2; omega) _, fun x hx => ownsRow_setCell_below (hA.2 x hx) (by show F < F + 2; omega) _⟩
  · exact ownsRow_setCell_below hP (by show F < F + 2; omega) _
  · rw [World.size_setCell]; omega
  · exact (h.lo.trans (hb.mono (by omega))).setCell (p := ⟨F, 1, none⟩) (Nat.le_refl _) _
/-- behind the append of a piece. -/
theorem InS.app2 {w1 w w' : World} {F : Nat} {va vp v' : Value} {al : List (Ans × Value)} {pl : List Pc} {p : Pc} {o : Obj} (h : InS w1 F w va vp al pl) (ho : w'.ownsRow (F + 2) 110 2 v' (pl.length + 1) (pl.flatMap encP ++ encP p)) (hg : (w.alloc o).grownBy w' vp.ownBlock) :
    (w'.cell? ⟨F + 1, 0, none⟩ = some vp ∧ (∀ j, w'.frozen? ⟨F + 1, j, none⟩ = false) ∧ F + 1 < w'.heap.size) ∧ InS w1 F (w'.setCell ⟨F + 1, 0, none⟩ v') va v' al (pl ++ [p]) := by
  have z := h.sz
  have hb : Below (F + 2) w w' := row_low h.ps z hg
  have c0 := (hb.cell (p := ⟨F, 0, none⟩) (by show F < _; omega)).trans h.f0
  have c1 := (hb.cell (p := ⟨F, 1, none⟩) (by show F < _; omega)).trans h.f1
  have c2 := (hb.cell (p := ⟨F + 1, 0, none⟩) (by show F + 1 < _; omega)).trans h.p0
  have f0 : ∀ j, w'.frozen? ⟨F, j, none⟩ = false := fun j => (hb.frozen (p := ⟨F, j, none⟩) (by show F < _; omega)).trans (h.fz j)
  have f1 : ∀ j, w'.frozen? ⟨F + 1, j, none⟩ = false := fun j => (hb.frozen (p := ⟨F + 1, j, none⟩) (by show F + 1 < _; omega)).trans (h.pz j)
  have hs := hb.size
  refine ⟨⟨c2, f1, by omega⟩, ?_, ?_, World.cell?_setCell_same (h := c2) .., ?_, ?_, ?_, ?_, ?_, ?_⟩
  · rw [World.cell?_setCell_other (h := by simp)]; exact c0
  · rw [World.cell?_setCell_other (h := by simp)]; exact c1
  · intro j; rw [World.frozen?_setCell]; exact f0 j
  · intro j; rw [World.frozen?_setCell]; exact f1 j
  · exact ⟨ownsRow_setCell_below (own_side h.an.1 h.ps (by decide) hg) (by show F + 1 < F + 2; omega) _, fun x hx => ownsRow_setCell_below (own_side (h.an.2 x hx) h.ps (by decide) hg) (by show F + 1 < F + 2; omega) _⟩
  · exact ownsRow_setCell_below (own_snocG ho) (by show F + 1 < F + 2; omega) _
  · rw [World.size_setCell]; omega
  · exact (h.lo.trans (hb.mono (by omega))).setCell (p := ⟨F + 1, 0, none⟩) (Nat.le_succ _) _
/-- the loop's record is put away. -/
theorem InS.putD {w1 w : World} {F D : Nat} {va vp : Value} {al : List (Ans × Value)} {pl : List Pc} {ds : Option (List Deferred)} (h : InS w1 F w va vp al pl) (hD : w.heap[D]? = some (.deferred ds)) (hF : F + 2 ≤ D) (o : Obj) : InS w1 F (w.putObj D o) va vp al pl := by
  have hg := grownBy_putObj' w D o
  have hc : ∀ c, c ≠ D → (w.putObj D o).heap[c]? = w.heap[c]? := fun c h => World.putObj_heap_other h
  have kr : ∀ {e : TypeId} {sz n : Nat} {v : Value} {xs : List Value}, w.ownsRow (F + 2) e sz v n xs → (w.putObj D o).ownsRow (F + 2) e sz v n xs := fun {e sz n v xs} hr => hr.kept hg (.inr (fun q => own_notD hr hD q.symm))
  exact ⟨(World.cell?_of_block (a := ⟨F, 0, none⟩) (hc F (by omega))).trans h.f0, (World.cell?_of_block (a := ⟨F, 1, none⟩) (hc F (by omega))).trans h.f1, (World.cell?_of_block (a := ⟨F + 1, 0, none⟩) (hc (F + 1) (by omega))).trans h.p0, fun j => (World.frozen?_of_block (a := ⟨F, j, none⟩) (hc F (by omega))).trans (h.fz j), fun j => (World.frozen?_of_block (a := ⟨F + 1, j, none⟩) (hc (F + 1) (by omega))).trans (h.pz j),
    ⟨kr h.an.1, fun x hx => kr (h.an.2 x hx)⟩, kr h.ps, Nat.le_trans h.sz hg.size, h.lo.grown hg (by have := h.sz; omega) (fun k hk => by cases hk; omega)⟩
def TellR (w1 : World) (F : Nat) (al : List (Ans × Value)) (pl : List Pc) (A : Ans) (fr : Int) (e : Ending) (w' : World) : Prop :=
  (bigA A = true ∧ e = .returned (.int .i64 1) ∧ Below F w1 w') ∨
  (bigA A = false ∧ ∃ va' vp' vo, e = .returned (.int .i64 0) ∧ InS w1 F w' va' vp' (al ++ [(A, vo)]) (pl ++ [⟨fr, al.length⟩]))
set_option maxRecDepth 100000 in
set_option maxHeartbeats 4000000 in
theorem tell_any (xs : List Spn) (v va vp : Value) (T L E F : Nat) (fr lc : Int) (w1 w : World) (al : List (Ans × Value)) (pl : List Pc) (hS : InS w1 F w va vp al pl) (hv : SlAt w1 4 RSpn v xs) (hx0 : 0 < xs.length) (hx1 : xs.length ≤ 1000)
    (hb : ∀ j (hj : j < xs.length), SpB xs[j]) (hT : w1.cell? ⟨T, 0, none⟩ = some (.int .i64 4102444800)) (hL : w1.cell? ⟨L, 0, none⟩ = some v) (hE : w1.cell? ⟨E, 0, none⟩ = some (.func (.func 50) #[] #[.pointer (some ⟨T, 0, none⟩), .pointer (some ⟨L, 0, none⟩)]))
    (hTF : T < F) (hLF : L < F) (hEF : E < F) (hF : F = w1.heap.size) (hal : al.length ≤ 3000) (hpl : pl.length ≤ 3000) (hlc : I64 lc) (hfr : I64 fr) :
    Calls Tryz.prog 53 #[.int .i64 fr, .int .i64 lc, .pointer (some ⟨T, 0, none⟩), .pointer (some ⟨L, 0, none⟩), .pointer (some ⟨E, 0, none⟩), .pointer (some ⟨F, 0, none⟩), .pointer (some ⟨F + 1, 0, none⟩)] w (TellR w1 F al pl (tellA (segs xs) lc) fr) := by
  obtain ⟨av, cv, rfl, hl⟩ := hv.shape
  have hm := maxLen_eq _ hl
  have HIS := Lib.hid hS
  have HV : Hid (∀ W', Below w1.heap.size w1 W' → SlAt W' 4 RSpn (.slice av xs.length cv) xs) := Lib.hid fun W' h => hv.mono h fun _ _ h => h
  have HB := Lib.hid hb
  have hlo := hS.lo
  have hsz := hS.sz
  have cT := (hlo.cell (p := ⟨T, 0, none⟩) hTF).trans hT
  have cL := (hlo.cell (p := ⟨L, 0, none⟩) hLF).trans hL
  have cE := (hlo.cell (p := ⟨E, 0, none⟩) hEF).trans hE
  have HFW := Lib.hid hF
  have HLO := Lib.hid hlo
  have zT : T < w.heap.size := by omega
  have zL : L < w.heap.size := by omega
  have zE : E < w.heap.size := by omega
  clear hv hl hm hS hb hT hL hE hF hlo
  refine (callsIn_wide (n := 6)).1 ?_
  refine callsIn_of_wp_marks Tryz.func53 rfl trivial ?_ rfl
  simp only [Tryz.ntmps53, List.size_toArray, List.length_cons, List.length_nil, Nat.reduceAdd, Nat.reduceSub, Array.replicate_succ, Array.replicate_zero, List.push_toArray, List.append_toArray, List.nil_append, List.cons_append]
  gi_wp2_with (refine ⟨trivial, ?_⟩; gi_at_call 54; refine (backwardS_in Fence.wide _ trivial rfl _ _ _ _).mono ?_; rintro e w' ⟨rfl, rfl⟩)
  have hA0 : ABx (((w.alloc (.cells #[.int .i64 lc] 3)).alloc (.cells #[.int .i64 0, .bool false, .string ⟨#[]⟩, .slice none 0 0, .int .i64 4102444800] 79)).alloc (.cells #[.slice av xs.length cv] 31)) (w.heap.size + 1) (.slice none 0 0) 4102444800 := by
    have h := World.alloc_heap_new (w.alloc (.cells #[.int .i64 lc] 3)) (.cells #[.int .i64 0, .bool false, .string ⟨#[]⟩, .slice none 0 0, .int .i64 4102444800] 79)
    rw [size_alloc] at h
    exact (Below.heap_alloc _ _ _ (by rw [size_alloc, size_alloc]; omega)).trans h
  have hX0 := ((Boxed.new w 3 (.int .i64 lc)).alloc (.cells #[.int .i64 0, .bool false, .string ⟨#[]⟩, .slice none 0 0, .int .i64 4102444800] 79)).alloc (.cells #[.slice av xs.length cv] 31)
  have hY0 := Boxed.new ((w.alloc (.cells #[.int .i64 lc] 3)).alloc (.cells #[.int .i64 0, .bool false, .string ⟨#[]⟩, .slice none 0 0, .int .i64 4102444800] 79)) 31 (.slice av xs.length cv)
  have hB0 := (below_alloc2 (Nat.le_refl w.heap.size) (.cells #[.int .i64 lc] 3) (.cells #[.int .i64 0, .bool false, .string ⟨#[]⟩, .slice none 0 0, .int .i64 4102444800] 79)).alloc (by rw [size_alloc, size_alloc]; omega) (.cells #[.slice av xs.length cv] 31)
  have hsz0 : (((w.alloc (.cells #[.int .i64 lc] 3)).alloc (.cells #[.int .i64 0, .bool false, .string ⟨#[]⟩, .slice none 0 0, .int .i64 4102444800] 79)).alloc (.cells #[.slice av xs.length cv] 31)).heap.size = w.heap.size + 1 + 1 + 1 := by rw [size_alloc, size_alloc, size_alloc]
  rw [size_alloc, size_alloc] at hY0
  generalize ((w.alloc (.cells #[.int .i64 lc] 3)).alloc (.cells #[.int .i64 0, .bool false, .string ⟨#[]⟩, .slice none 0 0, .int .i64 4102444800] 79)).alloc (.cells #[.slice av xs.length cv] 31) = W0 at *
  have HSL : Hid (∀ W', Below w.heap.size w W' → SlAt W' 4 RSpn (.slice av xs.length cv) xs) := fun W' h => HV.out W' ((HLO.out.mono (by rw [HFW.out]; exact Nat.le_refl _)).trans (h.mono (by have := HFW.out; omega)))
  have hst := backwardS_stops Fence.wide 5 trivial rfl (by decide) (w.heap.size + 1 + 1) w.heap.size 31 _ xs W0 (by omega) (by omega) hY0 (fun W' h => HSL.out W' (hB0.trans h))
  refine wpIn_rangeFunc_ownH rfl (by decide) (gf := 93) (lb := #[.pointer (some ⟨w.heap.size + 1 + 1, 0, none⟩)]) rfl trivial (enters_of Tryz.func93 (by kernel_rfl) rfl)
    hst Kp2.trans (fun W l o o' hl ho hc hw => ⟨belowK_b (w := w) (Nat.le_refl _) W l o o' (by omega) ho hc hw, fun q hq => (World.putObj_heap_other (by omega)).trans hq⟩) (Below.refl _ _) (fun _ => rfl)
    (fun pre W => (ABx W (w.heap.size + 1) (.slice none 0 0) (jmp xs lc pre) ∧ Boxed W w.heap.size 3 (.int .i64 lc)) ∧ Below w.heap.size w W)
    (fun _ _ _ => False)
    (OwnFrom.and (OwnFrom.and (Own.from (abx_own _ _ _) _) (Own.from (boxed_own _ _ _) _)) (ownFrom_below (Nat.le_refl _) (by omega)))
    (fun _ _ _ _ _ hs _ _ => hs)
    ⟨⟨hA0, hX0⟩, hB0⟩
    (fun x a' W => a' = { tmps := #[.int .i64 fr, .int .i64 lc, .pointer (some ⟨T, 0, none⟩), .pointer (some ⟨L, 0, none⟩), .pointer (some ⟨E, 0, none⟩), .pointer (some ⟨F, 0, none⟩), .pointer (some ⟨F + 1, 0, none⟩), undef, .pointer (some ⟨w.heap.size, 0, none⟩), .int .i64 0, .pointer (some ⟨w.heap.size + 1, 0, none⟩), .int .i64 (x.1 : Int), undef, undef, undef, undef, undef, undef, .int .i64 4102444800, .agg #[.int .i64 0, .bool false, .string ⟨#[]⟩, .slice none 0 0, .int .i64 4102444800], .slice av xs.length cv, .func (.func 93) #[] #[.pointer (some ⟨w.heap.size + 1 + 1, 0, none⟩)], .int .i64 (x.1 : Int), spnV xs[x.1], undef, undef, undef, undef, undef, undef, undef, undef, undef, undef, undef, undef, undef, undef, undef, undef, undef, undef, undef, undef, undef, undef, undef, undef, undef, undef, undef, undef, undef, undef, undef, undef, undef, undef, undef, undef, undef, undef, undef, undef, undef, undef, undef, undef, undef, undef, undef, undef, undef, undef, undef, undef, undef, undef, undef, undef, undef, undef, undef, undef, undef, undef, undef, undef, undef], defers := [] })
    (fun x a' _ X Y row hs hg hr => hs)
    ?assign ?body ?done ?stop
  case assign =>
    rintro l pre x W K ⟨⟨hA1, hX1⟩, hB1⟩ hK
    unfold bkS spnV
    gi_wp2
    exact hK _ _ (KeepsFrom.refl _ _) (Kp2.refl _ _ _) ⟨⟨hA1, hX1⟩, hB1⟩ rfl
  case body =>
    rintro l pre x a' W hl ⟨r, hr⟩ ⟨⟨hA1, hX1⟩, hB1⟩ rfl hlt
    have hx := x.2
    have eT := (hB1.cell (p := ⟨T, 0, none⟩) zT).trans cT
    have eL := (hB1.cell (p := ⟨L, 0, none⟩) zL).trans cL
    have eE := (hB1.cell (p := ⟨E, 0, none⟩) zE).trans cE
    have eX := hX1.cell
    have HSV := HSL.out W hB1
    have HEN := Lib.hid (ends_any xs _ T L x.1 W hx eT eL HSV HB.out)
    obtain ⟨b, off, e1, hbb, ⟨c0, -, -, -⟩, -, -, -⟩ := elemSpn HSV x.1 hx
    have HSN := Lib.hid (jmp_snoc xs lc pre x)
    have HA1 := Lib.hid hA1
    have HX1 := Lib.hid hX1
    have HB1 := Lib.hid hB1
    have a4 := hA1.cell 4
    have af := hA1.frozen 4
    have az := hA1.lt
    subst e1
    have hxi : ((x.1 : Nat) : Int) < (xs.length : Int) := by omega
    clear HSV hA1 hX1 hB1 eT
    by_cases hc : lc < (segF xs x.1 xs[x.1]).lo
    · have HJ : Hid (jmp xs lc (pre ++ [x]) = xs[x.1].fr) := by
        show _ = _
        rw [HSN.out, if_pos hc]
      clear HSN
      generalize (segF xs x.1 xs[x.1]).lo = lo at *
      generalize (segF xs x.1 xs[x.1]).hi = hh at *
      generalize xs[x.1] = xx at *
      gi_wp2_with (refine ⟨trivial, ?_⟩; gi_at_call 50; refine (CallsIn.inRound l (callsIn_wide.2 HEN.out)).mono ?_; rintro e w' ⟨rfl, nq, rfl⟩)
      have hA2 : ABx ((W.drewN nq).setCell ⟨w.heap.size + 1, 4, none⟩ (.int .i64 xx.fr)) (w.heap.size + 1) (.slice none 0 0) (jmp xs lc (pre ++ [x])) := by
        rw [HJ.out]
        exact ABx.setJ (W := W.drewN nq) HA1.out xx.fr
      have hX2 : Boxed ((W.drewN nq).setCell ⟨w.heap.size + 1, 4, none⟩ (.int .i64 xx.fr)) w.heap.size 3 (.int .i64 lc) := (Below.heap_setCell (W.drewN nq) _ _ _ (by show w.heap.size ≠ w.heap.size + 1; omega)).trans HX1.out
      have hB2 : Below w.heap.size W ((W.drewN nq).setCell ⟨w.heap.size + 1, 4, none⟩ (.int .i64 xx.fr)) := (below_draws (Below.refl _ _) nq).setCell (p := ⟨w.heap.size + 1, 4, none⟩) (by show w.heap.size ≤ w.heap.size + 1; omega) _
      exact ⟨((keeps_drewN W nq).trans (KeepsOthers.setCell _ _ _)).from _, ⟨hB2, fun o ho => (Below.heap_setCell (W.drewN nq) _ _ _ (by show w.heap.size + 1 + 1 ≠ w.heap.size + 1; omega)).trans ho⟩, ⟨hA2, hX2⟩, HB1.out.trans hB2⟩
    · have HJ : Hid (jmp xs lc (pre ++ [x]) = jmp xs lc pre) := by
        show _ = _
        rw [HSN.out, if_neg hc]
      clear HSN
      generalize (segF xs x.1 xs[x.1]).lo = lo at *
      generalize (segF xs x.1 xs[x.1]).hi = hh at *
      generalize xs[x.1] = xx at *
      gi_wp2_with (refine ⟨trivial, ?_⟩; gi_at_call 50; refine (CallsIn.inRound l (callsIn_wide.2 HEN.out)).mono ?_; rintro e w' ⟨rfl, nq, rfl⟩)
      exact ⟨(keeps_drewN W nq).from _, ⟨below_draws (Below.refl _ _) nq, fun o ho => ho⟩, ⟨by rw [HJ.out]; exact HA1.out, HX1.out⟩, below_draws HB1.out nq⟩
  case done =>
    rintro D zs W hD hS ⟨⟨hA1, hX1⟩, hB1⟩ hK
    rw [jmp_done hS] at hA1
    have hS0 : TlS w lc D W (.slice none 0 0) (jumpAt (segs xs) lc) [] := ⟨hA1, hX1, World.ownsRow_nil _ _ _ _, hB1, hK, by have := hA1.lt; omega⟩
    have HS0 := Lib.hid hS0
    have eL := (hB1.cell (p := ⟨L, 0, none⟩) zL).trans cL
    obtain ⟨i0, hi, hzi0, hzi1, hzi2⟩ := info_parts info_int
    obtain ⟨ia, hia, hza0, hza1, hza2⟩ := info_parts info_ans
    obtain ⟨ip, hip, hzp0, hzp1, hzp2⟩ := info_parts info_pc
    have HDF : Hid (F + 2 ≤ D) := Lib.hid (by omega)
    clear hA1 hX1 hB1 hS0 hS hK hst hA0 hX0 hY0 hB0
    gi_wp2
    gi_loopw [41] (fun iv wr => ∃ (k : Nat) (ys : List Int) (vo : Value) (jv : Int), k ≤ xs.length ∧ iv = .int .i64 (k : Int) ∧ ys.length ≤ k ∧ Hid (ys = offsAt ((segs xs).take k) lc) ∧ Hid (jv = if ys.length = 0 then jumpAt (segs xs) lc else 0) ∧ Hid (TlS w lc D wr vo jv ys)) (fun iv _ => (xs.length - intOf iv).toNat)
    case atStart => exact ⟨0, [], _, _, by omega, rfl, Nat.le_refl _, rfl, rfl, HS0⟩
    case round =>
      obtain ⟨k, ys, vo, jv, hk, rfl, hyl, hY, hJ, hT⟩ := hrel
      have hlo := hT.out.lo
      have hbw := hlo.size
      by_cases hlt : k < xs.length
      · obtain ⟨ao, co, rfl⟩ := own_shape hT.out.ow
        have HEN : Hid (∀ W', Below w.heap.size w W' → Calls Tryz.prog 50 #[.int .i64 (k : Int), .pointer (some ⟨T, 0, none⟩), .pointer (some ⟨L, 0, none⟩)] W' fun e w' => e = .returned (.tuple #[.int .i64 (segF xs k xs[k]).lo, .int .i64 (segF xs k xs[k]).hi]) ∧ ∃ n, w' = W'.drewN n) := fun W' hb =>
          ends_any xs _ T L k W' hlt ((hb.cell (p := ⟨T, 0, none⟩) zT).trans cT) ((hb.cell (p := ⟨L, 0, none⟩) zL).trans cL) (HSL.out W' hb) HB.out
        obtain ⟨b, off, e1, hbb, ⟨c0, c1, c2, c3⟩, -, -, hnm⟩ := elemSpn (HSL.out wr hlo) k hlt
        have hnm' := maxLen_eq _ hnm
        have HTK := Lib.hid (offs_take xs lc k hlt)
        have HIN : Hid (∀ r : Bool, (decide ((segF xs k xs[k]).lo ≤ lc) && decide (lc < (segF xs k xs[k]).hi)) = r → inS lc (segF xs k xs[k]) = r) := fun r h => h
        have hki : (k : Int) < (xs.length : Int) := by omega
        have mL := (hlo.cell (p := ⟨L, 0, none⟩) zL).trans cL
        have mE := (hlo.cell (p := ⟨E, 0, none⟩) zE).trans cE
        have zE2 : E < wr.heap.size := by omega
        have zL2 : L < wr.heap.size := by omega
        have m8 := hT.out.bx.cell
        have z8 := hT.out.bx.lt
        have a3 : wr.cell? ⟨w.heap.size + 1, 3, none⟩ = some (.slice ao ys.length co) := hT.out.ax.cell 3
        have a4 : wr.cell? ⟨w.heap.size + 1, 4, none⟩ = some (.int .i64 jv) := hT.out.ax.cell 4
        have af := hT.out.ax.frozen
        have az := hT.out.ax.lt
        have hys : ys.length ≤ 1000 := by omega
        clear hnm
        generalize segF xs k xs[k] = sg at *
        generalize xs[k] = x at *
        obtain ⟨lo, hh, sgo, sgf⟩ := sg
        dsimp only at HEN HIN
        have HALL : Hid (∀ nq, TlS w lc D ((wr.alloc (.cells #[.int .i64 x.fr, .int .i64 x.ck.off, .bool x.ck.sav, .string x.ck.nm] 39)).drewN nq) (.slice ao ys.length co) jv ys) := fun nq => (hT.out.alloc _).draws nq
        have HBA : Hid (∀ o, Below w.heap.size w (wr.alloc o)) := fun o => hlo.alloc hbw o
        have HSZ : Hid (wr.heap.size + 1 = (wr.alloc (.cells #[.int .i64 x.fr, .int .i64 x.ck.off, .bool x.ck.sav, .string x.ck.nm] 39)).heap.size) := by show _ = _; rw [size_alloc]
        subst e1
        clear hlo
        by_cases hq : lo ≤ lc
        · by_cases hq2 : lc < hh
          · have HT2 : Hid (offsAt ((segs xs).take (k + 1)) lc = ys ++ [x.ck.off]) := by
              show _ = _
              rw [HTK.out, if_pos (HIN.out true (by simp; omega)), ← hY.out]
            clear HTK HIN hY hJ
            gi_wp2_with (first | (refine ⟨trivial, ?_⟩; gi_at_call 50; refine (callsIn_wide.2 (HEN.out _ (HBA.out _))).mono ?_; rintro e w' ⟨rfl, nq, rfl⟩) | (gi_at_builtin; refine wpListIn_append_own _ rfl _ _ 77 rfl (w.heap.size + 2) 3 i0 (.int .i64 0) 1 8 Tryz.underlying77 hi hzi0 hzi1 hzi2 rfl (by decide) (.slice ao ys.length co) ys.length (ys.flatMap encI) rfl ((HALL.out nq).ow.alloc _) ⟨wr.heap.size + 1, 0, none⟩ 1 1 [.int .i64 x.ck.off] rfl rfl (cells_at _ _ _ _ _ HSZ.out rfl) (by intro u hu; simp at hu; subst hu; rfl) (by unfold maxLen; omega) (by omega) (Nat.le_trans (HALL.out nq).sz (size_le_push_ _ _)) ?_; intro v' w6 hown' hgrow _; obtain ⟨av', ac', rfl⟩ := own_shape hown'; obtain ⟨hax, hts⟩ := (HALL.out nq).app hown' hgrow; have HTS := Lib.hid hts; have r3 := hax.cell 3; have rf := hax.frozen; have rz := hax.lt; have r4 := hts.ax.cell 4; have rf4 := hts.ax.frozen; have rz4 := hts.ax.lt; clear hown' hgrow hax hts))
            go_roundw
            case rel => exact ⟨k + 1, ys ++ [x.ck.off], _, 0, by omega, by go_num, by rw [List.length_append]; simp; omega, Lib.hid HT2.out.symm, by show (0 : Int) = _; rw [if_neg (by rw [List.length_append]; simp)], Lib.hid (HTS.out.jump 0)⟩
            case measure => simp [intOf]; omega
          · have HT2 : Hid (offsAt ((segs xs).take (k + 1)) lc = ys) := by
              show _ = _
              rw [HTK.out, if_neg (by rw [HIN.out false (by simp; omega)]; simp), ← hY.out, List.append_nil]
            clear HTK HIN hY
            gi_wp2_with (refine ⟨trivial, ?_⟩; gi_at_call 50; refine (callsIn_wide.2 (HEN.out _ (HBA.out _))).mono ?_; rintro e w' ⟨rfl, nq, rfl⟩)
            go_roundw
            case rel => exact ⟨k + 1, ys, _, jv, by omega, by go_num, by omega, Lib.hid HT2.out.symm, hJ, Lib.hid (HALL.out nq)⟩
            case measure => simp [intOf]; omega
        · have HT2 : Hid (offsAt ((segs xs).take (k + 1)) lc = ys) := by
            show _ = _
            rw [HTK.out, if_neg (by rw [HIN.out false (by simp; omega)]; simp), ← hY.out, List.append_nil]
          clear HTK HIN hY
          gi_wp2_with (refine ⟨trivial, ?_⟩; gi_at_call 50; refine (callsIn_wide.2 (HEN.out _ (HBA.out _))).mono ?_; rintro e w' ⟨rfl, nq, rfl⟩)
          go_roundw
          case rel => exact ⟨k + 1, ys, _, jv, by omega, by go_num, by omega, Lib.hid HT2.out.symm, hJ, Lib.hid (HALL.out nq)⟩
          case measure => simp [intOf]; omega
      · have hkx : k = xs.length := by omega
        obtain ⟨ao, co, rfl⟩ := own_shape hT.out.ow
        have et : (segs xs).take k = segs xs := List.take_of_length_le (by rw [segs_len]; omega)
        have HA : Hid (tellA (segs xs) lc = ⟨⟨0, false, ⟨#[]⟩⟩, ys, jv⟩) := by
          show (⟨⟨0, false, ⟨#[]⟩⟩, offsAt (segs xs) lc, if (offsAt (segs xs) lc).length = 0 then jumpAt (segs xs) lc else 0⟩ : Ans) = _
          have h := hY.out
          rw [et] at h
          rw [← h, hJ.out]
        have hki : ¬ (k : Int) < (xs.length : Int) := by omega
        have a0 : wr.cell? ⟨w.heap.size + 1, 0, none⟩ = some (.int .i64 0) := hT.out.ax.cell 0
        have a1 : wr.cell? ⟨w.heap.size + 1, 1, none⟩ = some (.bool false) := hT.out.ax.cell 1
        have a2 : wr.cell? ⟨w.heap.size + 1, 2, none⟩ = some (.string ⟨#[]⟩) := hT.out.ax.cell 2
        have a3 : wr.cell? ⟨w.heap.size + 1, 3, none⟩ = some (.slice ao ys.length co) := hT.out.ax.cell 3
        have a4 : wr.cell? ⟨w.heap.size + 1, 4, none⟩ = some (.int .i64 jv) := hT.out.ax.cell 4
        have HDK : Hid (wr.heap[D]? = some (.deferred (some []))) := hT.out.dk
        have hys : ys.length ≤ 1000 := by omega
        clear et hY hJ
        by_cases h6 : 6 < ys.length
        · have h6i : (6 : Int) < (ys.length : Int) := by omega
          have HBG : Hid (bigA (tellA (segs xs) lc) = true) := by
            show _ = _
            rw [HA.out]
            simp [bigA]
            omega
          clear h6
          gi_wp2
          refine ⟨by simp, .inl ⟨_, _, rfl, run_takeDeferred HDK.out, ?_⟩⟩
          refine ⟨_, results_tmp rfl _ _ _, ?_⟩
          exact .inl ⟨HBG.out, rfl, (HLO.out.trans (hlo.mono (by omega))).grown (grownBy_putObj' _ _ _) (by omega) (fun q hq => by cases hq; have := HDF.out; omega)⟩
        · have h6i : ¬ (6 : Int) < (ys.length : Int) := by omega
          have HBG : Hid (bigA (tellA (segs xs) lc) = false) := by
            show _ = _
            rw [HA.out]
            simp [bigA]
            omega
          have HI := Lib.hid (HIS.out.below hlo)
          have f1 := HI.out.f1
          have p0 := HI.out.p0
          have fzz := HI.out.fz 1
          have pzz := HI.out.pz 0
          have HVO : Hid (wr.ownsRow (F + 2) 3 1 (.slice ao ys.length co) ys.length (ys.flatMap encI)) := ownsRow_base (by omega) hT.out.ow
          have HDL : Hid (D < wr.heap.size) := (Array.getElem?_eq_some_iff.1 HDK.out).1
          have HDA : Hid (∀ o : Obj, (wr.alloc o).heap[D]? = some (.deferred (some []))) := fun o => (Below.heap_alloc _ _ _ HDL.out).trans HDK.out
          obtain ⟨az, cz, rfl⟩ := own_shape HI.out.an.1
          obtain ⟨ap, cp, rfl⟩ := own_shape HI.out.ps
          have zF : F < wr.heap.size := by omega
          have zP : F + 1 < wr.heap.size := by omega
          clear h6
          gi_wp2_with (first | (gi_at_builtin; refine wpListIn_append_own _ rfl (.tmp 75) (.tmp 77) 72 rfl (F + 2) 79 ia (.agg #[.int .i64 0, .bool false, .string ⟨#[]⟩, .slice none 0 0, .int .i64 0]) 5 64 Tryz.underlying72 hia hza0 hza1 hza2 rfl (by decide) (.slice az al.length cz) al.length (al.flatMap encW) rfl (HI.out.an.1.alloc _) ⟨wr.heap.size, 0, none⟩ 1 1 (encW (⟨⟨0, false, ⟨#[]⟩⟩, ys, jv⟩, .slice ao ys.length co)) rfl rfl (cells_at _ _ _ _ _ rfl rfl) (encW_one _ ⟨_, _, _, rfl⟩) (by unfold maxLen; omega) (by omega) (Nat.le_trans HI.out.sz (size_le_push_ _ _)) ?_; intro v1 u1 hown1 hgrow1 _; obtain ⟨av1, ac1, rfl⟩ := own_shape hown1; obtain ⟨⟨r1, rf, rz⟩, hI2⟩ := HI.out.app1 (y := (⟨⟨0, false, ⟨#[]⟩⟩, ys, jv⟩, .slice ao ys.length co)) HVO.out hown1 hgrow1; have hd1 := (hgrow1.block D (Nat.lt_of_lt_of_le HDL.out (size_le_push_ _ _)) (own_notD HI.out.an.1 HDK.out)).trans (HDA.out _); have HD1 := Lib.hid hd1; have HI2 := Lib.hid hI2; have g1 := hI2.f1; have g2 := hI2.p0; have g3 := hI2.pz 0; have g4 := hI2.sz; clear hown1 hgrow1 hI2 hd1) | (gi_at_builtin; refine wpListIn_append_own _ rfl (.tmp 80) (.tmp 87) 108 rfl (F + 2) 110 ip (.agg #[.int .i64 0, .int .i64 0]) 2 16 Tryz.underlying108 hip hzp0 hzp1 hzp2 rfl (by decide) (.slice ap pl.length cp) pl.length (pl.flatMap encP) rfl (HI2.out.ps.alloc _) ⟨u1.heap.size, 0, none⟩ 1 1 (encP ⟨fr, al.length⟩) rfl rfl (cells_at _ _ _ _ _ (World.size_setCell ..).symm rfl) (encP_one _) (by unfold maxLen; omega) (by omega) (Nat.le_trans HI2.out.sz (size_le_push_ _ _)) ?_; intro v2 u2 hown2 hgrow2 _; obtain ⟨av2, ac2, rfl⟩ := own_shape hown2; have hdA := (Below.heap_setCell u1 ⟨F, 1, none⟩ (.slice av1 (al.length + 1) ac1) D (by show D ≠ F; have := HDF.out; omega)).trans HD1.out; have hdL := (Array.getElem?_eq_some_iff.1 hdA).1; have hdB := (hgrow2.block D (Nat.lt_of_lt_of_le hdL (size_le_push_ _ _)) (own_notD HI2.out.ps hdA)).trans ((Below.heap_alloc _ _ _ hdL).trans hdA); have HD3 : Hid ((u2.setCell ⟨F + 1, 0, none⟩ (.slice av2 (pl.length + 1) ac2)).heap[D]? = some (.deferred (some []))) := (Below.heap_setCell u2 _ _ D (by show D ≠ F + 1; have := HDF.out; omega)).trans hdB; obtain ⟨⟨t1, tf, tz⟩, hI3⟩ := HI2.out.app2 (p := ⟨fr, al.length⟩) hown2 hgrow2; have HI3 := Lib.hid hI3; clear hown2 hgrow2 hI3 hdA hdB hdL))
          refine ⟨by simp, .inl ⟨_, _, rfl, run_takeDeferred HD3.out, ?_⟩⟩
          refine ⟨_, results_tmp rfl _ _ _, ?_⟩
          exact .inr ⟨HBG.out, _, _, .slice ao ys.length co, rfl, by rw [HA.out]; exact HI3.out.putD HD3.out HDF.out _⟩
  case stop =>
    rintro D c pre W _ _ h _
    exact h.elim
end Go.Proofs.YtbikdlcjbigafaaGreatDoor
