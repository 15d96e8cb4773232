/-
  code.Gen: the walk.
-/
import Derived.Test.YtlhidbbphngpcaaDoorGenM
namespace Go.Proofs.YtlhidbbphngpcaaDoor
set_option linter.unusedVariables false
set_option linter.unusedSimpArgs false
open Go.ChangeShapes Go.WideShapes Go.ChangeAt Go.RowKit

theorem following_q (v : Value) (ak : List Bool) (i : Nat) (w : World) (hv : SlAt w 1 RBol v ak) (hi : i < ak.length) {r : Int} (hr : fol ak i = r) :
    Calls Tryd.prog 47 #[v, .int .i64 i] w fun e w' => e = .returned (.int .i64 r) ∧ w' = w := hr ▸ following_any v ak i w hv hi
theorem slAt_blk {α : Type} {w w' : World} {sz b off n cap : Nat} {R : List Value → α → Prop} {xs : List α} (h : SlAt w sz R (.slice (some ⟨b, off, none⟩) n cap) xs) (e : w'.heap[b]? = w.heap[b]?) (hz : b < w'.heap.size) : SlAt w' sz R (.slice (some ⟨b, off, none⟩) n cap) xs := by
  rcases h with h | ⟨b', off', cap', hv, h0, h1, h2, h3, h4⟩
  · exact .inl h
  · simp only [Value.slice.injEq, Option.some.injEq, Addr.mk.injEq, and_true] at hv
    obtain ⟨⟨rfl, rfl⟩, rfl, rfl⟩ := hv
    refine .inr ⟨b, off, cap, rfl, h0, h1, h2, hz, fun i hi => ?_⟩
    obtain ⟨cs, c1, c2, c3⟩ := h4 i hi
    exact ⟨cs, c1, c2, fun j hj => (blk_cell e _).trans (c3 j hj)⟩
/-- the state ahead of Gen's loop. -/
theorem GnS.new {w1 wa wb : World} {va : Value} {l : List (Ans × Value)} (h : GnA w1 wa va l) (hb : Below wa.heap.size wa wb) (n : Nat) :
    GnS ((wb.alloc (.cells (madeCells #[.int .i64 0] n) 3)).alloc (.map #[] 0)) w1.heap.size w1.heap.size wb.heap.size (wb.heap.size + 1) (wb.heap.size + 2) n va ((wb.alloc (.cells (madeCells #[.int .i64 0] n) 3)).alloc (.map #[] 0)) (gen0 n) (.slice none 0 0) (.slice none 0 0) (.slice none 0 0) := by
  obtain ⟨h1, h2, h3, h4⟩ := h
  have hz := hb.size
  have hs := size_alloc wb (.cells (madeCells #[.int .i64 0] n) 3)
  have k : ∀ c, c < wb.heap.size → ((wb.alloc (.cells (madeCells #[.int .i64 0] n) 3)).alloc (.map #[] 0)).heap[c]? = wb.heap[c]? := fun c hc => (Below.heap_alloc _ _ _ (by omega)).trans (Below.heap_alloc _ _ _ hc)
  refine ⟨h2.keep ((k _ (by omega)).trans (hb.block _ (by omega))), World.ownsRow_nil _ _ _ _, World.ownsRow_nil _ _ _ _, World.ownsRow_nil _ _ _ _, ?_, ?_, fun _ _ _ _ _ => rfl, Below.refl _ _, by simp [gen0], Nat.le_refl _, by omega, by omega, by omega, by rw [size_alloc, hs]; exact Nat.le_refl _⟩
  · refine ((World.rowIs_made wb (.int .i64 0) n 3).alloc _).congr fun i hi => ?_
    show Value.int .i64 0 = .int .i64 ((List.replicate n 0).getD i 0)
    rw [List.getD_eq_getElem?_getD, List.getElem?_replicate, if_pos hi]
    rfl
  · have hm := World.ownsMap_made (H := Unit) (wb.alloc (.cells (madeCells #[.int .i64 0] n) 3)) Tryd.prog 3 (plainElem Tryd.prog 3)
    rw [hs] at hm
    exact ⟨.map [], hm, ⟨hm.isMap, fun b => ⟨by simp [Maps.has, gen0], fun hb => by simp [gen0] at hb⟩⟩⟩
theorem GnS.draws {W1 wx : World} {F P S M B n : Nat} {va vc vp vh : Value} {g : Gs} (h : GnS W1 F P S M B n va wx g vc vp vh) (q : Nat) : GnS W1 F P S M B n va (wx.drewN q) g vc vp vh := by
  obtain ⟨h1, h2, h3, h4, h5, h6, h7, h8, h9⟩ := h
  exact ⟨h1, h2, h3, h4, h5, h6, h7, below_draws h8 _, h9⟩
theorem GnS.drw {W1 wx : World} {F P S M B n : Nat} {va vc vp vh : Value} {g : Gs} (h : GnS W1 F P S M B n va wx g vc vp vh) : GnS W1 F P S M B n va wx.drew g vc vp vh := by
  obtain ⟨h1, h2, h3, h4, h5, h6, h7, h8, h9⟩ := h
  exact ⟨h1, h2, h3, h4, h5, h6, h7, h8.drew, h9⟩
/-- what lies ahead of Gen's loop and stays. -/
def GnW (w wa Wl : World) (P S bq n : Nat) (vn va vz : Value) (l : List (Ans × Value)) (ak : List Bool) : Prop :=
  GnQ w Wl vn va ∧ SlAt Wl 1 RBol (.slice (some ⟨bq, 0, none⟩) n n) ak ∧ P < bq ∧ bq < S ∧ w.heap.size + 2 ≤ P ∧ AnG wa (P + 1) vz l ∧ (∀ c, c < wa.heap.size → Wl.heap[c]? = wa.heap[c]?) ∧ wa.heap.size ≤ S ∧ P < wa.heap.size
theorem GnW.new {w w1 wa wb : World} {bq n : Nat} {vn va vz : Value} {l : List (Ans × Value)} {ak : List Bool} (h0 : 0 < n) (hQ1 : GnQ w w1 vn va) (hQ : GnQ w wb vn va) (h : GnA w1 wa vz l) (hb : Below wa.heap.size wa wb) (hs : SlAt wb 1 RBol (.slice (some ⟨bq, 0, none⟩) n n) ak) (hbq : wa.heap.size ≤ bq) (hak : ak.length = n) (o o' : Obj) :
    GnW w wa ((wb.alloc o).alloc o') w1.heap.size wb.heap.size bq n vn va vz l ak := by
  obtain ⟨h1, h2, h3, h4⟩ := h
  have hlt : bq < wb.heap.size := by
    rcases hs with ⟨a, cap, hv, e⟩ | ⟨b, off, cap, hv, _, _, _, hz, _⟩
    · subst e; simp at hak; omega
    · simp only [Value.slice.injEq, Option.some.injEq, Addr.mk.injEq] at hv
      rw [hv.1.1]; exact hz
  refine ⟨hQ.below (below_alloc2 (Nat.le_refl _) _ _), hs.mono (below_alloc2 (Nat.le_refl _) _ _) fun _ _ h => h, by omega, hlt, hQ1.2.2.2.2, h1, fun c hc => ?_, hb.size, by omega⟩
  exact ((below_alloc2 (Nat.le_refl _) _ _).block c (by have := hb.size; omega)).trans (hb.block c hc)
theorem GnW.at {w wa Wl wr : World} {P S bq n : Nat} {vn va vz vc vp vh : Value} {l : List (Ans × Value)} {ak : List Bool} {g : Gs} (h : GnW w wa Wl P S bq n vn va vz l ak) (hs : GnS Wl P P S (S + 1) (S + 2) n vz wr g vc vp vh) :
    GnQ w wr vn va ∧ SlAt wr 1 RBol (.slice (some ⟨bq, 0, none⟩) n n) ak ∧ AnG wr (P + 1) vz l := by
  obtain ⟨h1, h2, h3, h4, h5, h6, h7, h8, h9⟩ := h
  obtain ⟨_, _, _, _, _, _, hfr, hB, _, hn⟩ := hs
  refine ⟨h1.keep (hB.block _ (by omega)) (hB.block _ (by omega)) (hB.mono (by omega)), slAt_blk h2 (hfr bq (by omega) (by omega) (by omega) (by omega)) (by omega), h6.mv fun c hc hz => (hfr c (by omega) (by omega) (by omega) (by omega)).trans (h7 c hz)⟩
theorem gns3 {W1 wx w' : World} {F P S M B n pk : Nat} {va vc vp vh : Value} {gc gc3 : List Ins} {gp gs : List Int} {gh : List (Nat × Nat)} (h : GnS W1 F P S M B n va wx ⟨gc, gp, gs, gh⟩ vc vp vh) (e : gc3 = gc ++ [⟨1, 0⟩, ⟨2, (pk : Int)⟩, ⟨3, 0⟩]) {m : Nat} {v' : Value} {o : Obj} (ho : w'.ownsRow B 39 2 v' m (gc.flatMap gX ++ [.int .i64 1, .int .i64 0, .int .i64 2, .int .i64 (pk : Int), .int .i64 3, .int .i64 0])) (hm : m = gc.length + 3) (hg : (wx.alloc o).grownBy w' vc.ownBlock) :
    GnB w' P vc vp va ∧ P < w'.heap.size ∧ GnS W1 F P S M B n va (w'.setCell ⟨P, 0, none⟩ v') ⟨gc3, gp, gs, gh⟩ v' vp vh := by
  subst e
  exact h.code (xs := [⟨1, 0⟩, ⟨2, (pk : Int)⟩, ⟨3, 0⟩]) ho hm hg
theorem gns1 {W1 wx w' : World} {F P S M B n : Nat} {va vc vp vh : Value} {y : Ins} {gc gc3 : List Ins} {gp gs : List Int} {gh : List (Nat × Nat)} (h : GnS W1 F P S M B n va wx ⟨gc, gp, gs, gh⟩ vc vp vh) (e : gc3 = gc ++ [y]) {m : Nat} {v' : Value} {o : Obj} (ho : w'.ownsRow B 39 2 v' m (gc.flatMap gX ++ [.int .i64 y.op, .int .i64 y.n])) (hm : m = gc.length + 1) (hg : (wx.alloc o).grownBy w' vc.ownBlock) :
    GnB w' P vc vp va ∧ P < w'.heap.size ∧ GnS W1 F P S M B n va (w'.setCell ⟨P, 0, none⟩ v') ⟨gc3, gp, gs, gh⟩ v' vp vh := by
  subst e
  exact h.code (xs := [y]) ho hm hg
theorem gnsh {W1 wx w' : World} {F P S M B n a b : Nat} {va vc vp vh : Value} {gc : List Ins} {gp gs : List Int} {gh gh3 : List (Nat × Nat)} (h : GnS W1 F P S M B n va wx ⟨gc, gp, gs, gh⟩ vc vp vh) (e : gh3 = gh ++ [(a, b)]) {m : Nat} {v' : Value} {o : Obj} (ho : w'.ownsRow B 100 2 v' m (gh.flatMap gH ++ [.int .i64 (a : Int), .int .i64 (b : Int)])) (hm : m = gh.length + 1) (hg : (wx.alloc o).grownBy w' vh.ownBlock) :
    GnS W1 F P S M B n va w' ⟨gc, gp, gs, gh3⟩ vc vp v' := by
  subst e hm
  exact h.hole (x := (a, b)) ho hg
theorem NdB.new {wr : World} {B : Nat} (x : Nod) (hB : B ≤ wr.heap.size) : NdB (wr.alloc (.cells #[.bool x.lf, .int .i64 x.an, .int .i64 x.bd, .int .i64 x.ls, .int .i64 x.mr] 90)) wr.heap.size B x := ⟨World.alloc_heap_new wr _, hB⟩
/-- an element of an own row of two cells. -/
theorem own_two {α : Type} {w : World} {B n cap : Nat} {e : TypeId} {a : Option Addr} {xs : List α} {p q : α → Value} (h : w.ownsRow B e 2 (.slice a n cap) xs.length (xs.flatMap fun x => [p x, q x])) (k : Nat) (hk : k < xs.length) :
    ∃ g, a = some ⟨g, 0, none⟩ ∧ n = xs.length ∧ B ≤ g ∧ g < w.heap.size ∧ w.cell? ⟨g, k * 2, none⟩ = some (p xs[k]) ∧ w.cell? ⟨g, k * 2 + 1, none⟩ = some (q xs[k]) ∧ ∀ j, w.frozen? ⟨g, j, none⟩ = false := by
  have hs := slAt_of_own (enc := fun x => [p x, q x]) (R := fun cs x => cs = [p x, q x]) (by omega) (fun _ => rfl) (fun _ _ => rfl) h
  obtain ⟨_, h2⟩ := h
  rcases h2 with ⟨h2, h0⟩ | ⟨g, cap', cur, hv, hb, hh, _⟩
  · omega
  · simp only [Value.slice.injEq] at hv
    obtain ⟨rfl, hn, rfl⟩ := hv
    rcases hs with ⟨a', c', hv', e'⟩ | ⟨b, off, c', hv', h0, h1, h2, h3, h4⟩
    · subst e'; simp at hk
    · simp only [Value.slice.injEq, Option.some.injEq, Addr.mk.injEq, and_true] at hv'
      obtain ⟨⟨rfl, rfl⟩, _, _⟩ := hv'
      obtain ⟨cs, _, rfl, c3⟩ := h4 k hk
      have e0 := c3 0 (by omega)
      have e1 := c3 1 (by omega)
      rw [Nat.zero_add] at e0 e1
      exact ⟨g, rfl, hn, hb, h3, e0, e1, fun j => by simp [World.frozen?, hh]⟩
/-- an instruction's number is set. -/
theorem GnS.patch {W1 wx : World} {F P S M B n g m cap : Nat} {va vp vh : Value} {cs : List Ins} {gp gs : List Int} {gh : List (Nat × Nat)} (h : GnS W1 F P S M B n va wx ⟨cs, gp, gs, gh⟩ (.slice (some ⟨g, 0, none⟩) m cap) vp vh) {i : Nat} (hi : i < cs.length) (v : Int) :
    GnS W1 F P S M B n va (wx.setCell ⟨g, i * 2 + 1, none⟩ (.int .i64 v)) ⟨cs.set i ⟨(cs.getD i ⟨0, 0⟩).op, v⟩, gp, gs, gh⟩ (.slice (some ⟨g, 0, none⟩) m cap) vp vh := by
  have hn := h.nums
  obtain ⟨h1, h2, h3, h4, h5⟩ := h
  dsimp only at h2 h3 h4 h5
  have hBg : B ≤ g := (h2.lt g rfl).1
  have hm : m = cs.length := by
    obtain ⟨_, q⟩ := h2
    rcases q with ⟨q, _⟩ | ⟨g', cap', cur, hv, _⟩
    · simp at q
    · simp only [Value.slice.injEq] at hv
      exact hv.2.1
  subst hm
  have hst := h2.stored (i * 2 + 1) (.int .i64 v)
  have hk : ∀ c, c < B → (wx.setCell ⟨g, i * 2 + 1, none⟩ (.int .i64 v)).heap[c]? = wx.heap[c]? := fun c hc => Below.heap_setCell _ _ _ _ (by show c ≠ g; omega)
  have ap : ∀ {e : TypeId} {sz k : Nat} {u : Value} {l : List Value}, wx.ownsRow B e sz u k l → e ≠ 39 → (wx.setCell ⟨g, i * 2 + 1, none⟩ (.int .i64 v)).ownsRow B e sz u k l := fun hr hne => hr.kept hst.2 (by
    rcases own_apart hr h2 hne with q | q
    · exact .inl q
    · exact .inr q)
  refine ⟨h1.keep (hk _ (by omega)), ?_, ap h3 (by decide), ap h4 (by decide), h5.below ((Below.refl _ _).setCell hBg _)⟩
  dsimp only
  rw [List.length_set, ← flat_setX cs i v hi]
  exact hst.1
theorem hole_at {ns : List Nod} {g : Gs} (h : GOk ns 0 g) (k : Nat) (hk : k < g.holes.length) : g.holes[k].1 < g.code.length ∧ g.holes[k].2 < ns.length :=
  ⟨(h.2.2.2.2.2.1.2 _ (List.getElem_mem hk)).1, h.2.2.2.1 _ (List.getElem_mem hk)⟩
/-- what Gen hands back lies as a program. -/
theorem gen_end {W1 wx : World} {F P S M B n R : Nat} {va vc vp vh u0 u1 u2 : Value} {cs : List Ins} {gp gs : List Int} {gh : List (Nat × Nat)} {l : List (Ans × Value)} {az : List Ans} (h : GnS W1 F P S M B n va wx ⟨cs, gp, gs, gh⟩ vc vp vh) (hA : AnG wx (P + 1) va l) (hl : l.map Prod.fst = az) (hok : ∀ x ∈ az, AnO x) (hc : ∀ x ∈ cs, I64 x.op ∧ I64 x.n) (hp : ∀ b ∈ gp, I64 b) (hR : R < P) :
    PrgAt (((wx.setCell ⟨R, 0, none⟩ u0).setCell ⟨R, 1, none⟩ u1).setCell ⟨R, 2, none⟩ u2) vc vp va ⟨cs, gp, az⟩ := by
  have hn := h.nums
  obtain ⟨h1, h2, h3, h4, h5⟩ := h
  subst hl
  have k : ∀ {e : TypeId} {sz m C : Nat} {u : Value} {xs : List Value}, R < C → wx.ownsRow C e sz u m xs → (((wx.setCell ⟨R, 0, none⟩ u0).setCell ⟨R, 1, none⟩ u1).setCell ⟨R, 2, none⟩ u2).ownsRow C e sz u m xs := fun hC hr =>
    ownsRow_setCell_below (ownsRow_setCell_below (ownsRow_setCell_below hr hC _) hC _) hC _
  refine ⟨slAt_of_own (enc := gX) (by omega) (fun _ => rfl) (fun x hx => ⟨rfl, hc x hx⟩) (k (by omega) h2), ints_of_own hp (k (by omega) h3), ?_⟩
  have hA2 : AnG (((wx.setCell ⟨R, 0, none⟩ u0).setCell ⟨R, 1, none⟩ u1).setCell ⟨R, 2, none⟩ u2) (P + 1) va l := ⟨k (by omega) hA.1, fun x hx => k (by omega) (hA.2 x hx)⟩
  exact hA2.at hok
theorem reach_q (vn va : Value) (f : Frs) (w : World) (hf : FrsAt w vn va f) (h0 : 0 < f.nodes.length) (h8 : f.nodes.length ≤ 8000) (hc : Chl f.nodes) {ak : List Bool} (ha : reachD f.nodes = ak) :
    Calls Tryd.prog 46 #[.agg #[vn, va]] w fun e w' => ∃ b, w.heap.size ≤ b ∧ e = .returned (.slice (some ⟨b, 0, none⟩) f.nodes.length f.nodes.length) ∧ SlAt w' 1 RBol (.slice (some ⟨b, 0, none⟩) f.nodes.length f.nodes.length) ak ∧ Below w.heap.size w w' := ha ▸ reach_any vn va f w hf h0 h8 hc
set_option maxRecDepth 100000 in
set_option maxHeartbeats 8000000 in
theorem gen_ok (vn va : Value) (f : Frs) (w : World) (hf : FrsAt w vn va f) (h : frsE f = 0) {ak : List Bool} (hak : reachD f.nodes = ak) :
    Calls Tryd.prog 30 #[.agg #[vn, va]] w fun e w' => (∃ vc vp vz, e = .returned (.tuple #[.agg #[vc, vp, vz], .int .i64 0]) ∧ PrgAt w' vc vp vz (genP f.nodes ak f.answers) ∧ (genAll f.nodes ak).code.length ≤ 8000 ∧ (genAll f.nodes ak).pool.length ≤ 2000 ∧ Below w.heap.size w w') ∨
      (e = .returned (.tuple #[.agg #[.slice none 0 0, .slice none 0 0, .slice none 0 0], .int .i64 1]) ∧ 1000 < f.nodes.length ∧ Below w.heap.size w w') := by
  obtain ⟨g0, g1, g2, g3, g4⟩ := frs_good h
  obtain ⟨an, cn, rfl, ln⟩ := hf.1.shape
  obtain ⟨aa, ca, rfl, la⟩ := hf.2.shape
  have Q0 := Lib.hid (GnQ.new w (.slice an f.nodes.length cn) (.slice aa f.answers.length ca) 64 35)
  have HF := Lib.hid hf
  have HE := Lib.hid h
  have HAK := Lib.hid hak
  have HC := Lib.hid (frs_chl h)
  have HG3 := Lib.hid g3
  have hn0 := Lib.hid g0
  have hn8 : f.nodes.length ≤ 8000 := by omega
  have ha8 : f.answers.length ≤ 2000 := by omega
  obtain ⟨ia, hia, haz0, haz1, haz2⟩ := info_parts info_ga
  obtain ⟨ii, hii, hiz0, hiz1, hiz2⟩ := info_parts info_gi
  obtain ⟨ih, hih, hhz0, hhz1, hhz2⟩ := info_parts info_gh
  obtain ⟨it, hit, htz0, htz1, htz2⟩ := info_parts info_int
  clear hf h hak g0 g1 g2 g3 g4 ln la
  go_enter Tryd.func30, Tryd.ntmps30
  go_wp2_with fail
  refine (check_lit f _ _ _ (HF.out.mono (by exact Q0.out.2.2.2.1)) HE.out).mono ?_; rintro r w1 ⟨rfl, hb1⟩
  have Q1 := Lib.hid (Q0.out.below hb1)
  obtain ⟨q0, q1, q2⟩ := Q1.out.facts
  have A0 := Lib.hid (GnA.start w1 35)
  clear hb1 Q0
  go_wp2_with fail
  generalize w1.alloc (.cells #[.slice none 0 0, .slice none 0 0, .slice none 0 0] 35) = wz at *
  have HFw1 := Lib.hid (HF.out.mono Q1.out.2.2.2.1)
  go_loopw [28] (fun i wr => ∃ (k : Nat) (vz : Value) (l : List (Ans × Value)), i = .int .i64 (k : Int) ∧ k ≤ f.answers.length ∧ Hid (l.map Prod.fst = f.answers.take k) ∧ Hid (GnA w1 wr vz l)) (fun i _ => (f.answers.length - intOf i).toNat)
  case atStart => exact ⟨0, _, [], rfl, by omega, rfl, A0⟩
  case round =>
    obtain ⟨k, vz, l, rfl, hk, hl, hA⟩ := hrel
    obtain ⟨zn, zc, rfl⟩ := own_shape hA.out.1.1
    obtain ⟨a0, a1, a2, a3, a4⟩ := hA.out.facts
    have Qr := Lib.hid (Q1.out.below hA.out.2.2.1)
    have HFr := Lib.hid (HFw1.out.mono hA.out.2.2.1)
    by_cases hlt : k < f.answers.length
    · obtain ⟨b, off, vo, rfl, hbb, ⟨c0, c1, c2, c3, c4⟩, ho, hn, i1, i2⟩ := elemAns HFr.out.2 k hlt
      have hoff := ansE_offs (HG3.out k hlt)
      have hts : f.answers.take (k + 1) = f.answers.take k ++ [f.answers[k]] := take_snoc f.answers k hlt
      have HTS := Lib.hid hts
      have HO := Lib.hid ho
      have hlk : l.length = k := by have := congrArg List.length hl.out; rw [List.length_map, List.length_take] at this; omega
      have HLK := Lib.hid hlk
      clear hts ho hn i1 i2 hlk
      have hli : (k : Int) < (f.answers.length : Int) := by omega
      have hr8 : Hid (f.answers[k].offs.length * 8 ≤ 140737488355320) := by show _ ≤ _; omega
      clear hoff
      generalize f.answers[k] = y at c0 c1 c2 c4 HO HTS hr8
      obtain ⟨⟨yo, ys, yn⟩, yf, yj⟩ := y
      dsimp only at c0 c1 c2 c3 c4 HO hr8
      obtain ⟨vao, vco, rfl, -⟩ := HO.out.shape
      go_wp2_with fail
      refine (cloneInts_any _ yf _ (HO.out.mono ((Below.refl _ _).alloc (Nat.le_refl _) _) fun _ _ h => h) (by have := hr8.out; omega)).mono ?_; rintro r w2 ⟨v', rfl, hv, hb2⟩
      obtain ⟨av, cv, rfl⟩ := own_shape hv
      obtain ⟨⟨d0, d1, d2, d3, d4, d5, d6⟩, A1, hO, hne⟩ := hA.out.copied hb2 hv
      have A2 := Lib.hid A1
      have HO2 := Lib.hid hO
      obtain ⟨b0, b1, b2, b3, b4⟩ := A1.facts
      have hz3 : w1.heap.size + 1 ≤ (w2.setCell ⟨wr.heap.size, 3, none⟩ (.slice av yf.length cv)).heap.size := A1.2.2.2
      clear A1 hO hb2 hv a0 a1 a2 a3 a4 c0 c1 c2 c3 c4
      have HZ3 := Lib.hid hz3
      have HLL : Hid (l.length + 1 ≤ 100000) := by show _ ≤ _; have := HLK.out; omega
      clear hz3
      go_wp2_with (at_builtin; (refine wpList_append_own _ rfl _ _ 33 rfl (w1.heap.size + 1) 79 ia (.agg #[.int .i64 0, .bool false, .string ⟨#[]⟩, .slice none 0 0, .int .i64 0]) 5 64 Tryd.underlying33 hia haz0 haz1 haz2 rfl (by decide) _ _ _ rfl (A2.out.1.1.alloc _) _ 1 1 (encW (⟨⟨yo, ys, yn⟩, yf, yj⟩, Value.slice av yf.length cv)) rfl rfl (cells_at _ _ _ _ _ (by rw [World.size_setCell]) rfl) (encW_one (⟨⟨yo, ys, yn⟩, yf, yj⟩, Value.slice av yf.length cv) ⟨av, yf.length, cv, rfl⟩) (by have := HLL.out; unfold maxLen; omega) (by have := HLL.out; omega) (by have := HZ3.out; rw [size_alloc]; omega) ?_; intro v3 w4 hown' hgrow _; obtain ⟨a4, c4, rfl⟩ := own_shape hown'; obtain ⟨⟨s0, s1, s2⟩, A4⟩ := A2.out.more (y := (⟨⟨yo, ys, yn⟩, yf, yj⟩, Value.slice av yf.length cv)) HO2.out hown' hgrow; have AA := Lib.hid A4; clear A4 hown' hgrow))
      go_roundw
      case rel => exact ⟨k + 1, _, _, by go_num, by omega, by show _ = _; rw [List.map_append, hl.out]; exact HTS.out.symm, AA⟩
      case measure => simp [intOf]; omega
    · obtain rfl : k = f.answers.length := by omega
      obtain ⟨e0, e1, e2⟩ := Qr.out.facts
      clear a0 a1 a2 a3 a4
      go_wp2_with fail
      refine (reach_q _ _ f wr HFr.out hn0.out hn8 HC.out HAK.out).mono ?_; rintro r wb ⟨bq, hbq, rfl, hask, hbb⟩
      have QB := Lib.hid (Qr.out.below hbb)
      obtain ⟨q0, q1, q2⟩ := QB.out.facts
      have hmk := run_make_row' (P := Tryd.prog) 32 3 (.int .i64 0) 8 Tryd.underlying32 info_int rfl .i64 .i64 f.nodes.length (by omega) (by omega)
      have hmm := @run_makeMap Tryd.prog
      clear e0 e1 e2
      go_wp2_with fail
      have S0 := Lib.hid (GnS.new hA.out hbb f.nodes.length)
      have W0 := Lib.hid (GnW.new hn0.out Q1.out QB.out hA.out hbb hask hbq (by rw [← HAK.out]; exact reach_len _) (.cells (madeCells #[.int .i64 0] f.nodes.length) 3) (.map #[] 0))
      have hLE : Hid (l.map Prod.fst = f.answers) := by show _ = _; rw [hl.out]; exact List.take_length
      have HA : Hid (GnA w1 wr (.slice zn l.length zc) l) := hA
      clear hA hl hask hbb hmk hmm QB q0 q1 q2 A0 Qr HFr hbq HFw1
      generalize (wb.alloc (.cells (madeCells #[.int .i64 0] f.nodes.length) 3)).alloc (.map #[] 0) = Wl at *
      generalize wb.heap.size = S at *
      obtain ⟨P, hP⟩ : ∃ P, w1.heap.size = P := ⟨_, rfl⟩
      rw [hP] at S0 W0 ⊢
      have HP := Lib.hid hP
      clear hP
      clear q0 q1 q2
      go_loopw [10, 12] (fun vh i wx => ∃ (k : Nat) (J : Int) (g : Gs) (vc vp : Value), i = .int .i64 J ∧ Hid (J = (k : Int) - 1) ∧ k ≤ f.nodes.length ∧ Hid (gen f.nodes ak k g = genAll f.nodes ak ∧ GOk f.nodes k g) ∧ Hid (GnS Wl P P S (S + 1) (S + 2) f.nodes.length (.slice zn l.length zc) wx g vc vp vh)) (fun _ i _ => (intOf i + 1).toNat)
      case atStart => exact ⟨f.nodes.length, _, _, _, _, rfl, rfl, Nat.le_refl _, ⟨rfl, GOk.start _⟩, S0⟩
      case round =>
        obtain ⟨k, J, ⟨gc, gp, gs, gh⟩, vc, vp, rfl, hJ, hkn, hgen, hS⟩ := hrel
        have HLN : Hid (gc.length ≤ 40000 ∧ gp.length ≤ 8000 ∧ gh.length ≤ 16000) := by
          obtain ⟨_, _, _, _, _, _, h1, h2, h3⟩ := hgen.out.2
          dsimp only at h1 h2 h3
          exact ⟨by omega, by omega, by omega⟩
        obtain ⟨ac, cc, rfl⟩ := own_shape (n := gc.length) hS.out.2.1
        obtain ⟨ap, cp, rfl⟩ := own_shape (n := gp.length) hS.out.2.2.1
        obtain ⟨ah, ch, rfl⟩ := own_shape (n := gh.length) hS.out.2.2.2.1
        cases k with
        | zero =>
          obtain rfl : J = -1 := by have := hJ.out; omega
          have hG : genAll f.nodes ak = ⟨gc, gp, gs, gh⟩ := hgen.out.1.symm
          have HG := Lib.hid hG
          have HOK0 := Lib.hid hgen.out.2
          clear hG hgen hJ
          go_wp2_with fail
          go_loopw [154] (fun i wx => ∃ (k : Nat) (cs : List Ins), i = .int .i64 (k : Int) ∧ k ≤ gh.length ∧ Hid (cs = patch gs gc (gh.take k)) ∧ Hid (GnS Wl P P S (S + 1) (S + 2) f.nodes.length (.slice zn l.length zc) wx ⟨cs, gp, gs, gh⟩ (.slice ac gc.length cc) (.slice ap gp.length cp) (.slice ah gh.length ch))) (fun i _ => (gh.length - intOf i).toNat)
          case atStart => exact ⟨0, gc, rfl, Nat.zero_le _, rfl, hS⟩
          case round =>
            obtain ⟨k, cs, rfl, hkh, hcs, hSx⟩ := hrel
            by_cases hkl : k < gh.length
            · have HWK : Hid (wrap64 ((k : Int) + 1) = ((k + 1 : Nat) : Int)) := by
                have h16 := HLN.out.2.2
                show wrap64 _ = _
                rw [IntWalk.wrap64_in _ (by omega)]
                omega
              have HMS : Hid (((gh.length : Int) - ((k + 1 : Nat) : Int)).toNat < ((gh.length : Int) - (k : Int)).toNat) := by show _ < _; omega
              obtain ⟨gb, hgb, -, hgB, hgz, e0, e1, -⟩ := own_two (p := fun x : Nat × Nat => .int .i64 (x.1 : Int)) (q := fun x : Nat × Nat => .int .i64 (x.2 : Int)) hSx.out.2.2.2.1 k hkl
              dsimp only at e0 e1
              subst hgb
              have hkc : (k : Int) < (gh.length : Int) := by omega
              obtain ⟨q1, q2⟩ := hole_at HOK0.out k hkl
              dsimp only at q1 q2 e0 e1
              have hlen : cs.length = gc.length := by rw [hcs.out]; exact patch_len _ _
              have hpt := patch_take (st := gs) (c := gc) hkl
              rw [← hcs.out] at hpt
              generalize gh[k] = hh at e0 e1 q1 q2 hpt
              obtain ⟨at', nd⟩ := hh
              dsimp only at e0 e1 q1 q2
              have HPT := Lib.hid hpt
              have HLEN := Lib.hid hlen
              have HQ1 := Lib.hid q1
              have HQ2 := Lib.hid q2
              have hq1 : (at' : Int) < (gc.length : Int) := by omega
              have hq2 : (nd : Int) < (f.nodes.length : Int) := by omega
              obtain ⟨gg, hgg, -, hBg, hgz2, c0, c1, cf⟩ := own_two (p := fun x : Ins => .int .i64 x.op) (q := fun x : Ins => .int .i64 x.n) hSx.out.2.1 at' (by dsimp only; omega)
              subst hgg
              obtain ⟨ov, hov⟩ : ∃ ov, wr.cell? ⟨gg, at' * 2 + 1, none⟩ = some ov := ⟨_, c1⟩
              clear hgz c0 c1 hpt hlen q1 q2
              go_upto_region 37 with fail
              have hS1 := hSx.out.alloc (.cells #[.int .i64 (at' : Int), .int .i64 (nd : Int)] 100)
              have x0 : (wr.alloc (.cells #[.int .i64 (at' : Int), .int .i64 (nd : Int)] 100)).cell? ⟨wr.heap.size, 0, none⟩ = some (.int .i64 (at' : Int)) := World.cell?_alloc_at (w := wr) _ _ wr.heap.size 0 rfl
              have x1 : (wr.alloc (.cells #[.int .i64 (at' : Int), .int .i64 (nd : Int)] 100)).cell? ⟨wr.heap.size, 1, none⟩ = some (.int .i64 (nd : Int)) := World.cell?_alloc_at (w := wr) _ _ wr.heap.size 1 rfl
              have bA : Below wr.heap.size wr (wr.alloc (.cells #[.int .i64 (at' : Int), .int .i64 (nd : Int)] 100)) := (Below.refl _ _).alloc (Nat.le_refl _) _
              have g1 := (bA.cell (p := ⟨gg, at' * 2 + 1, none⟩) hgz2).trans hov
              have g2 : ∀ j, (wr.alloc (.cells #[.int .i64 (at' : Int), .int .i64 (nd : Int)] 100)).frozen? ⟨gg, j, none⟩ = false := fun j => (bA.frozen (p := ⟨gg, j, none⟩) hgz2).trans (cf j)
              have g3 : gg < (wr.alloc (.cells #[.int .i64 (at' : Int), .int .i64 (nd : Int)] 100)).heap.size := by rw [size_alloc]; omega
              have hnx : ¬ wr.heap.size = gg := by omega
              have hnx' : ¬ gg = wr.heap.size := by omega
              have hnn := hS1.nums
              have hnp : ¬ P = gg := by omega
              have hnp' : ¬ gg = P := by omega
              have hns : ¬ S = gg := by omega
              have hns' : ¬ gg = S := by omega
              generalize wr.alloc (.cells #[.int .i64 (at' : Int), .int .i64 (nd : Int)] 100) = w2 at *
              clear bA hov cf hgz2 e0 e1 hnn
              generalize wr.heap.size = X at *
              obtain ⟨p0, -, -, -, -, -, -⟩ := hS1.facts
              have pS := hS1.2.2.2.2.1.cell HQ2.out
              have hsb := start_at HOK0.out.2.2.1 nd
              dsimp only at pS hsb
              generalize hsv : gs.getD nd 0 = sv at pS hsb
              have hat : (at' : Int) ≤ 40000 := by have := HLN.out; omega
              have hw1 : wrap64 (sv - (at' : Int)) = sv - (at' : Int) := IntWalk.wrap64_in _ (by omega)
              have hw2 : wrap64 (sv - (at' : Int) - 1) = sv - (at' : Int) - 1 := IntWalk.wrap64_in _ (by omega)
              have hw3 : IntKind.i64.wrap (sv - (at' : Int)) = sv - (at' : Int) := IntWalk.i64_in _ (by omega)
              have hw4 : IntKind.i64.wrap (sv - (at' : Int) - 1) = sv - (at' : Int) - 1 := IntWalk.i64_in _ (by omega)
              have HSV := Lib.hid hsv
              have HS1 := Lib.hid hS1
              clear hS1 hsb hat hsv
              go_region_held3 (fun w' => w'.cell? ⟨P, 0, none⟩ = some (.slice (some ⟨gg, 0, none⟩) gc.length cc) ∧ w'.cell? ⟨X, 0, none⟩ = some (.int .i64 (at' : Int)) ∧ w'.cell? ⟨X, 1, none⟩ = some (.int .i64 (nd : Int)) ∧ w'.cell? ⟨S, nd, none⟩ = some (.int .i64 sv)) (first | (with_reducible exact ⟨p0, x0, x1, pS⟩) | go_keep) (fail)
              have hS2 := (HS1.out.patch (i := at') (by rw [HLEN.out]; exact HQ1.out) (sv - (at' : Int) - 1)).drw
              have hp1 : cs.set at' ⟨(cs.getD at' ⟨0, 0⟩).op, sv - (at' : Int) - 1⟩ = patch gs gc (gh.take (k + 1)) := by
                rw [HPT.out]
                unfold patch1
                rw [HSV.out]
              rw [hp1] at hS2
              have HS2 := Lib.hid hS2
              clear hS2 hp1 p0 x0 x1 pS g1 g2 g3
              generalize (w2.setCell ⟨gg, at' * 2 + 1, none⟩ (.int .i64 (sv - (at' : Int) - 1))).drew = w3 at *
              go_wp2_with fail
              go_roundw
              case rel => exact ⟨k + 1, _, by rw [HWK.out], hkl, rfl, HS2⟩
              case measure =>
                have e1 := HWK.out
                have e2 := HMS.out
                clear HWK HMS
                rw [e1]
                exact e2
            · obtain rfl : k = gh.length := by omega
              have hcs2 : cs = patch gs gc gh := by rw [hcs.out, List.take_length]
              obtain ⟨p0, p1, p2, p3, p4, -, -⟩ := hSx.out.facts
              obtain ⟨Qx, -, HAx⟩ := W0.out.at hSx.out
              obtain ⟨r0, r1, r2, r3, r4⟩ := Qx.res
              have hlen : cs.length = gc.length := by rw [hcs2]; exact patch_len _ _
              have hsm := genAll_small f.nodes ak
              rw [HG.out] at hsm
              dsimp only at hsm
              have hBx := Qx.2.2.2.1
              have HBX := Lib.hid hBx
              have HCS := Lib.hid hcs2
              have HAX := Lib.hid HAx
              have hRP : Hid (w.heap.size + 1 < P) := by show w.heap.size + 1 < P; have := W0.out.2.2.2.2.1; omega
              have HSM := Lib.hid hsm
              clear hsm hlen hcs2 HAx hBx Qx hcs
              have bad : Hid (1000 < f.nodes.length ∨ (gc.length ≤ 8000 ∧ gp.length ≤ 2000)) := by
                obtain ⟨s1, s2⟩ := HSM.out
                show _ ∨ _
                omega
              by_cases h8 : 8000 < gc.length
              · have h8' : (8000 : Int) < (gc.length : Int) := by omega
                have hbig : Hid (1000 < f.nodes.length) := by show _ < _; have := HSM.out; omega
                clear h8 bad
                go_wp2_with fail
                refine bodyPost_ret (v := .tuple #[.agg #[.slice none 0 0, .slice none 0 0, .slice none 0 0], .int .i64 1]) (by simp [results, Tryd.results30, go_sem, r0, r1, r2, r4]) rfl (.inr ⟨rfl, hbig.out, ?_⟩)
                exact ((HBX.out.setCell (by show w.heap.size ≤ w.heap.size + 1; omega) _).setCell (by show w.heap.size ≤ w.heap.size + 1; omega) _).setCell (by show w.heap.size ≤ w.heap.size + 1; omega) _
              · have h8' : (gc.length : Int) ≤ 8000 := by omega
                by_cases h2 : 2000 < gp.length
                · have h2' : (2000 : Int) < (gp.length : Int) := by omega
                  have hbig : Hid (1000 < f.nodes.length) := by show _ < _; have := HSM.out; omega
                  clear h8 bad h2
                  go_wp2_with fail
                  refine bodyPost_ret (v := .tuple #[.agg #[.slice none 0 0, .slice none 0 0, .slice none 0 0], .int .i64 1]) (by simp [results, Tryd.results30, go_sem, r0, r1, r2, r4]) rfl (.inr ⟨rfl, hbig.out, ?_⟩)
                  exact ((HBX.out.setCell (by show w.heap.size ≤ w.heap.size + 1; omega) _).setCell (by show w.heap.size ≤ w.heap.size + 1; omega) _).setCell (by show w.heap.size ≤ w.heap.size + 1; omega) _
                · have h2' : (gp.length : Int) ≤ 2000 := by omega
                  have hsz : Hid (gc.length ≤ 8000 ∧ gp.length ≤ 2000) := ⟨by omega, by omega⟩
                  clear h8 bad h2
                  go_wp2_with fail
                  refine bodyPost_ret (v := .tuple #[.agg #[.slice ac gc.length cc, .slice ap gp.length cp, .slice zn l.length zc], .int .i64 0]) (by simp [results, Tryd.results30, go_sem, r0, r1, r2, r4]) rfl (.inl ⟨_, _, _, rfl, ?_, ?_, ?_, ?_⟩)
                  · have hE := gen_end (R := w.heap.size + 1) (u0 := .slice ac gc.length cc) (u1 := .slice ap gp.length cp) (u2 := .slice zn l.length zc) hSx.out HAX.out hLE.out (fun x hx => anO_of HF.out.2 x hx) (by
                      rw [HCS.out]
                      exact patch_ok HOK0.out.2.2.1 gh gc HOK0.out.1 (by have := HLN.out; omega) (fun h hh => (HOK0.out.2.2.2.2.2.1.2 h hh).1)) HOK0.out.2.1 hRP.out
                    have hP : genP f.nodes ak f.answers = ⟨cs, gp, f.answers⟩ := by unfold genP; rw [HG.out, HCS.out]
                    rw [hP]
                    exact hE
                  · rw [HG.out]; exact hsz.out.1
                  · rw [HG.out]; exact hsz.out.2
                  · exact ((HBX.out.setCell (by show w.heap.size ≤ w.heap.size + 1; omega) _).setCell (by show w.heap.size ≤ w.heap.size + 1; omega) _).setCell (by show w.heap.size ≤ w.heap.size + 1; omega) _
        | succ j =>
          obtain rfl : J = (j : Int) := by have := hJ.out; omega
          have hjl : j < f.nodes.length := hkn
          have hji : (j : Int) < (f.nodes.length : Int) := by omega
          obtain ⟨Qx, HSx, HAx⟩ := W0.out.at hS.out
          have hak : ak.length = f.nodes.length := by rw [← HAK.out]; exact reach_len _
          obtain ⟨bb, ob, hbe, hbz, cb⟩ := elemBol (xs := ak) (n := f.nodes.length) HSx j (by omega)
          simp only [Option.some.injEq, Addr.mk.injEq, and_true] at hbe
          obtain ⟨rfl, rfl⟩ := hbe
          rw [Nat.zero_add] at cb
          have hask : askd ak j = ak[j]'(by omega) := by unfold askd; rw [List.getD_eq_getElem?_getD, List.getElem?_eq_getElem (by omega)]; rfl
          rw [← hask] at cb
          obtain ⟨x0, x1, x2⟩ := Qx.facts
          have HFx := HF.out.mono Qx.2.2.2.1
          obtain ⟨bn, on, hbn, hbnz, c0, c1, c2, c3, c4⟩ := elemNod HFx.1 j hjl
          subst hbn
          have hstep : gen f.nodes ak j (gStep f.nodes ak j ⟨gc, gp, gs, gh⟩) = genAll f.nodes ak := hgen.out.1
          have hok := GOk.step (ak := ak) hgen.out.2 hjl hn8 (fun x hx => nods64 HF.out.1 x hx) HC.out
          have h64 := nods64 HF.out.1 _ (List.getElem_mem hjl)
          have hgs : gStep f.nodes ak j ⟨gc, gp, gs, gh⟩ = if askd ak j = true then (if f.nodes[j].lf = true then ⟨gc ++ [⟨6, f.nodes[j].an⟩], gp, gs.set j gc.length, gh⟩ else gAsk ak j f.nodes[j] ⟨gc, gp, gs, gh⟩) else ⟨gc, gp, gs, gh⟩ := by
            unfold gStep
            rw [List.getElem?_eq_getElem hjl]
          clear hask hbz hak HFx Qx HAx HSx hJ
          obtain ⟨x, hx⟩ : ∃ x, x = f.nodes[j] := ⟨_, rfl⟩
          have HX := Lib.hid hx
          rw [← hx] at c0 c1 c2 c3 c4 h64 hgs
          clear hx
          have HST := Lib.hid hstep
          have HOK := Lib.hid hok
          have H64 := Lib.hid h64
          clear hstep hok h64
          have hwj : wrap64 ((j : Int) - 1) = (j : Int) - 1 := IntWalk.wrap64_in _ (by omega)
          have HWJ := Lib.hid hwj
          clear hwj hgen
          cases hb : askd ak j with
          | false =>
            rw [hb] at cb hgs
            rw [if_neg (by simp)] at hgs
            rw [hgs] at HST HOK
            clear hgs hb
            go_wp2_with fail
            go_roundw
            case rel => exact ⟨j, _, ⟨gc, gp, gs, gh⟩, _, _, rfl, by first | rfl | exact HWJ, by omega, ⟨HST, HOK⟩, hS⟩
            case measure => simp [intOf, HWJ.out]
          | true =>
            rw [hb] at cb hgs
            rw [if_pos rfl] at hgs
            go_upto_region 20 with fail
            have hS1 := hS.out.alloc (.cells #[.bool x.lf, .int .i64 x.an, .int .i64 x.bd, .int .i64 x.ls, .int .i64 x.mr] 90)
            have hD1 := NdB.new (B := S + 2) x hS.out.nums.2.2.2.2
            generalize wr.alloc (.cells #[.bool x.lf, .int .i64 x.an, .int .i64 x.bd, .int .i64 x.ls, .int .i64 x.mr] 90) = w2 at hS1 hD1 ⊢
            clear hS x0 x1 x2 c0 c1 c2 c3 c4 cb
            generalize wr.heap.size = N at hD1 ⊢
            obtain ⟨p0, p1, p2, p3, p4, p5, p6⟩ := hS1.facts
            have pS := hS1.2.2.2.2.1.cell hjl
            have HS3 := Lib.hid (hS1.start hjl (gc.length : Int))
            have HD3 := Lib.hid (hD1.set (k := S) (o := j) (u := .int .i64 (gc.length : Int)) (by omega))
            dsimp only at pS HS3
            clear hS1 hD1
            go_upto_region 21 with fail
            generalize w2.setCell ⟨S, j, none⟩ (.int .i64 (gc.length : Int)) = w3 at *
            clear p0 p1 p2 p3 p4 p5 p6 pS
            obtain ⟨p0, p1, p2, p3, p4, -, -⟩ := HS3.out.facts
            obtain ⟨d0, d1, d2, d3, d4⟩ := HD3.out.facts
            have hz3 : Hid (S + 2 ≤ w3.heap.size) := HS3.out.nums.2.2.2.2
            cases hlf : x.lf with
            | true =>
              rw [hlf] at d0 hgs
              rw [if_pos rfl] at hgs
              rw [hgs] at HST HOK
              clear hgs hb hlf
              go_wp2_with (at_builtin; (refine wpList_append_own _ rfl _ _ 22 rfl (S + 2) 39 ii (.agg #[.int .i64 0, .int .i64 0]) 2 16 Tryd.underlying22 hii hiz0 hiz1 hiz2 rfl (by decide) _ _ _ rfl (HS3.out.2.1.alloc _) _ 1 1 ([(⟨6, x.an⟩ : Ins)].flatMap gX) rfl rfl (cells_at _ _ _ _ _ rfl rfl) (gXs_one _) (by have := HLN.out; dsimp only; unfold maxLen; omega) (by have := HLN.out; dsimp only; omega) (by have := hz3.out; rw [size_alloc]; omega) ?_; intro v3 w4 hown' hgrow _; obtain ⟨a4, c4, rfl⟩ := own_shape hown'; obtain ⟨⟨y0, y1, y2, y3⟩, y4, S4⟩ := HS3.out.code (xs := [(⟨6, x.an⟩ : Ins)]) hown' rfl hgrow; have HS4 := Lib.hid S4; clear S4 hown' hgrow p0 p1 p2 p3 p4))
              go_roundw
              case rel => exact ⟨j, _, _, _, _, rfl, by first | rfl | exact HWJ, by omega, ⟨HST, HOK⟩, HS4⟩
              case measure => simp [intOf, HWJ.out]
            | false =>
              rw [hlf] at d0 hgs
              rw [if_neg (by simp)] at hgs
              have HKK := Lib.hid (key_int x.bd H64.out.2.1)
              obtain ⟨Dm, hm, hpl⟩ := HS3.out.2.2.2.2.2.1
              have hhas := (hpl.2 x.bd).1
              obtain ⟨pb, hpb⟩ : ∃ pb, decide (x.bd ∈ gp) = pb := ⟨_, rfl⟩
              rw [hpb] at hhas
              have HM := Lib.hid hm
              have HPLM := Lib.hid hpl
              have HPB := Lib.hid hpb
              have HGS := Lib.hid hgs
              have HLF := Lib.hid hlf
              clear hm hpl hpb hgs hb hlf
              go_upto_if 92 with (at_lookup; (refine wpList_lookup_own_ok_int (H := Unit) _ rfl _ _ 97 rfl 3 3 .i64 vlaw Tryd.underlying97 Tryd.underlying3 (vzero _) (S + 1) gp.length Dm rfl HM.out (.int .i64 x.bd) (kI x.bd) rfl HKK.out ?_; intro c hat hwc; rw [hhas]; have HAT := Lib.hid hat; clear hat))
              go_cut [14] (fun kk wx => kk = .int .i64 ((poolK gp x.bd : Nat) : Int) ∧ ∃ vp', Hid (GnS Wl P P S (S + 1) (S + 2) f.nodes.length (.slice zn l.length zc) wx ⟨gc, poolP gp x.bd, gs.set j gc.length, gh⟩ (.slice ac gc.length cc) vp' (.slice ah gh.length ch)) ∧ Hid (NdB wx N (S + 2) x))
              case first =>
                cases pb with
                | true =>
                  have hin : x.bd ∈ gp := of_decide_eq_true HPB.out
                  obtain rfl : c = (gp.idxOf x.bd : Int) := dI_inj (((HPLM.out.2 x.bd).2 hin).symm.trans HAT.out)
                  have HP1 : Hid (GnS Wl P P S (S + 1) (S + 2) f.nodes.length (.slice zn l.length zc) w3 ⟨gc, poolP gp x.bd, gs.set j gc.length, gh⟩ (.slice ac gc.length cc) (.slice ap gp.length cp) (.slice ah gh.length ch)) := by
                    have e : poolP gp x.bd = gp := by unfold poolP; rw [if_pos hin]
                    show GnS _ _ _ _ _ _ _ _ _ _ _ _ _
                    rw [e]; exact HS3.out
                  have HK1 : Hid (poolK gp x.bd = gp.idxOf x.bd) := by show _ = _; unfold poolK; rw [if_pos hin]
                  clear hin
                  go_wp2_with fail
                  go_meet
                  exact ⟨by rw [HK1.out], _, HP1, HD3⟩
                | false =>
                  have hout : x.bd ∉ gp := of_decide_eq_false HPB.out
                  have HK1 : Hid (poolK gp x.bd = gp.length) := by show _ = _; unfold poolK; rw [if_neg hout]
                  have HE1 : Hid (poolP gp x.bd = gp ++ [x.bd]) := by show _ = _; unfold poolP; rw [if_neg hout]
                  have HOUT := Lib.hid hout
                  have HPA := Lib.hid (pel (gp.length : Int) (i64_of (by have := HLN.out; omega) (by have := HLN.out; omega)))
                  clear hout
                  go_upto_region 27 with (at_mapUpdate; (refine wpList_mapUpdate_own (H := Unit) _ rfl _ _ _ 97 rfl 3 3 vlaw Tryd.underlying97 (plainElem Tryd.prog 3) (S + 1) gp.length Dm rfl HM.out (by have := HLN.out; unfold maxLen; omega) (.int .i64 x.bd) (.int .i64 (gp.length : Int)) (kI x.bd) rfl rfl HKK.out (dI gp.length) [] HPA.out ?_; intro w4 hom hgm))
                  have hz4 : S + 2 ≤ w4.heap.size := Nat.le_trans hz3.out hgm.size
                  have HZ4 := Lib.hid hz4
                  have HD4 := Lib.hid (HD3.out.low (k := S + 1) (by omega) hgm)
                  have HN := Lib.hid (fun (w' : World) => HS3.out.pool (w' := w') hom HPLM.out HOUT.out hgm)
                  obtain ⟨⟨b0, b1, b2, b3⟩, b4, -, -⟩ := HN.out w4
                  obtain ⟨d0, d1, d2, d3, d4⟩ := HD4.out.facts
                  clear hom hgm hz4 p0 p1 p2 p3 p4
                  go_wp2_with (at_builtin; (refine wpList_append_own _ rfl _ _ 32 rfl (S + 2) 3 it (.int .i64 0) 1 8 Tryd.underlying32 hit htz0 htz1 htz2 rfl (by decide) _ _ _ rfl ((HN.out w4).2.2.1.alloc _) _ 1 1 (encI x.bd) rfl rfl (cells_at _ _ _ _ _ rfl rfl) (by intro u hu; simp [encI] at hu; subst hu; rfl) (by have := HLN.out; dsimp only; unfold maxLen; omega) (by have := HLN.out; dsimp only; omega) (by have := HZ4.out; rw [size_alloc]; omega) ?_; intro v5 w5 hown' hgrow _; obtain ⟨a5, c5, rfl⟩ := own_shape hown'; obtain ⟨⟨y0, y1, y2, y3⟩, y4, S5⟩ := (HN.out w5).2.2.2 hown' hgrow; have HS5 := Lib.hid S5; have HD5 := Lib.hid (HD4.out.row (HN.out w4).2.2.1 (by decide) hgrow); clear S5 hown' hgrow b0 b1 b2 b3 b4))
                  go_meet
                  have hPS : P < S + 2 := by have := HS3.out.nums; omega
                  exact ⟨by rw [HK1.out], _, by rw [HE1.out]; exact HS5.out, HD5.out.set hPS⟩
              case rest =>
                obtain ⟨rfl, vp5, HS5, HD5⟩ := hcut
                obtain ⟨p0, p1, p2, p3, p4, -, -⟩ := HS5.out.facts
                have hz5 : Hid (S + 2 ≤ wc.heap.size) := HS5.out.nums.2.2.2.2
                have HPS : Hid (P < S + 2) := by show P < S + 2; have := HS5.out.nums; omega
                obtain ⟨pk, hpk⟩ : ∃ pk, pk = poolK gp x.bd := ⟨_, rfl⟩
                rw [← hpk]
                obtain ⟨pp, hpp⟩ : ∃ pp, pp = poolP gp x.bd := ⟨_, rfl⟩
                rw [← hpp] at HS5
                have hch := HC.out j hjl
                rw [← HX.out] at hch
                obtain ⟨q1, q2, q3, q4⟩ := hch HLF.out
                obtain ⟨mR, hmR⟩ : ∃ n : Nat, x.mr = (n : Int) := ⟨x.mr.toNat, by omega⟩
                obtain ⟨lS, hlS⟩ : ∃ n : Nat, x.ls = (n : Int) := ⟨x.ls.toNat, by omega⟩
                clear hch q1 q2 q3 q4
                obtain ⟨gc3, hgc3⟩ : ∃ l : List Ins, l = gc ++ [⟨1, 0⟩, ⟨2, (pk : Int)⟩, ⟨3, 0⟩] := ⟨_, rfl⟩
                have hl3 : gc.length + 3 = gc3.length := by rw [hgc3, List.length_append]; rfl
                obtain ⟨gc4, hgc4⟩ : ∃ l : List Ins, l = gc3 ++ [⟨4, 0⟩] := ⟨_, rfl⟩
                have hl4 : gc3.length + 1 = gc4.length := by rw [hgc4, List.length_append]; rfl
                obtain ⟨gh1, hgh1⟩ : ∃ l : List (Nat × Nat), l = gh ++ [(gc3.length, mR)] := ⟨_, rfl⟩
                have hl5 : gh.length + 1 = gh1.length := by rw [hgh1, List.length_append]; rfl
                have HC3 := Lib.hid hgc3
                have HL3 := Lib.hid hl3
                have HC4 := Lib.hid hgc4
                have HL4 := Lib.hid hl4
                have HH1 := Lib.hid hgh1
                have HL5 := Lib.hid hl5
                have HPK := Lib.hid hpk
                have HPP := Lib.hid hpp
                have HMR := Lib.hid hmR
                have HLS := Lib.hid hlS
                have hPN : ¬ P = N := by have := HD5.out.2; have := HPS.out; omega
                have hNP : ¬ N = P := fun e => hPN e.symm
                have LEN : Hid (gc3.length ≤ 40010 ∧ gc4.length ≤ 40010 ∧ gh1.length ≤ 16010) := by have := HLN.out; exact ⟨by omega, by omega, by omega⟩
                clear hgc3 hl3 hpk hpp hgc4 hl4 hgh1 hl5 hmR hlS hhas hwc
                go_wp2_with (first | (at_builtin; (refine wpList_append_own _ rfl _ _ 22 rfl (S + 2) 39 ii (.agg #[.int .i64 0, .int .i64 0]) 2 16 Tryd.underlying22 hii hiz0 hiz1 hiz2 rfl (by decide) _ _ _ rfl (HS5.out.2.1.alloc _) ⟨wc.heap.size, 0, none⟩ 3 3 [.int .i64 1, .int .i64 0, .int .i64 2, .int .i64 (pk : Int), .int .i64 3, .int .i64 0] rfl rfl (cells_at _ _ _ _ _ rfl rfl) (gXs_one [(⟨1, 0⟩ : Ins), ⟨2, (pk : Int)⟩, ⟨3, 0⟩]) (by have := HLN.out; dsimp only; unfold maxLen; omega) (by have := HLN.out; dsimp only; omega) (by have := hz5.out; rw [size_alloc]; omega) ?_; intro v6 w6 hown' hgrow _; dsimp only at hown'; rw [HL3.out] at hown'; obtain ⟨a6, c6, rfl⟩ := own_shape hown'; obtain ⟨⟨y0, y1, y2, y3⟩, y4, S6⟩ := gns3 HS5.out HC3.out hown' HL3.out.symm hgrow; have HS6 := Lib.hid S6; have HD5' := Lib.hid (HD5.out.row HS5.out.2.1 (by decide) hgrow); have HD6 := Lib.hid (HD5'.out.set (k := P) (o := 0) (u := .slice a6 gc3.length c6) HPS.out); have HZ6 : Hid (S + 2 ≤ w6.heap.size) := (by have := S6.nums.2.2.2.2; rw [World.size_setCell] at this; exact this); obtain ⟨e0, e1, e2, e3, e4⟩ := HD5'.out.facts; rw [HMR.out] at e4; clear e0 e1 e2 e3 S6 HD5' hown' hgrow p0 p1 p2 p3 p4)) | (at_builtin; (refine wpList_append_own _ rfl _ _ 96 rfl (S + 2) 100 ih (.agg #[.int .i64 0, .int .i64 0]) 2 16 Tryd.underlying96 hih hhz0 hhz1 hhz2 rfl (by decide) _ _ _ rfl (HS6.out.2.2.2.1.alloc _) ⟨w6.heap.size, 0, none⟩ 1 1 [.int .i64 (gc3.length : Int), .int .i64 (mR : Int)] rfl rfl (cells_at _ _ _ _ _ (by rw [World.size_setCell]) rfl) (gH_one (gc3.length, mR)) (by have := HLN.out; dsimp only; unfold maxLen; omega) (by have := HLN.out; dsimp only; omega) (by have := HZ6.out; rw [size_alloc, World.size_setCell]; omega) ?_; intro v7 w7 hown' hgrow _; dsimp only at hown'; rw [HL5.out] at hown'; obtain ⟨a7, c7, rfl⟩ := own_shape hown'; have S7 := gnsh HS6.out HH1.out hown' HL5.out.symm hgrow; have HS7 := Lib.hid S7; obtain ⟨r0, r1, r2, r3, r4, -, -⟩ := S7.facts; have HZ7 : Hid (S + 2 ≤ w7.heap.size) := S7.nums.2.2.2.2; have HD7 := Lib.hid (HD6.out.row HS6.out.2.2.2.1 (by decide) hgrow); clear S7 hown' hgrow y0 y1 y2 y3 y4 e4)) | (at_builtin; (refine wpList_append_own _ rfl _ _ 22 rfl (S + 2) 39 ii (.agg #[.int .i64 0, .int .i64 0]) 2 16 Tryd.underlying22 hii hiz0 hiz1 hiz2 rfl (by decide) _ _ _ rfl (HS7.out.2.1.alloc _) ⟨w7.heap.size, 0, none⟩ 1 1 [.int .i64 4, .int .i64 0] rfl rfl (cells_at _ _ _ _ _ rfl rfl) (gXs_one [(⟨4, 0⟩ : Ins)]) (by have := LEN.out; dsimp only; unfold maxLen; omega) (by have := LEN.out; dsimp only; omega) (by have := HZ7.out; rw [size_alloc]; omega) ?_; intro v8 w8 hown' hgrow _; dsimp only at hown'; rw [HL4.out] at hown'; obtain ⟨a8, c8, rfl⟩ := own_shape hown'; obtain ⟨⟨y0, y1, y2, y3⟩, y4, S8⟩ := gns1 (y := ⟨4, 0⟩) HS7.out HC4.out hown' HL4.out.symm hgrow; have HS8 := Lib.hid S8; have HD8 := Lib.hid ((HD7.out.row HS7.out.2.1 (by decide) hgrow).set (k := P) (o := 0) (u := .slice a8 gc4.length c8) HPS.out); clear S8 hown' hgrow r0 r1 r2 r3 r4)))
                generalize w8.setCell ⟨P, 0, none⟩ (.slice a8 gc4.length c8) = w9 at *
                obtain ⟨p0, p1, p2, p3, p4, -, -⟩ := HS8.out.facts
                obtain ⟨d0, d1, d2, d3, d4⟩ := HD8.out.facts
                rw [HLS.out] at d3
                have HS9 := Lib.hid (W0.out.at HS8.out).2.1
                have hz9 : Hid (S + 2 ≤ w9.heap.size) := HS8.out.nums.2.2.2.2
                obtain ⟨fl, hfl⟩ : ∃ fl, fol ak j = fl := ⟨_, rfl⟩
                have HFL := Lib.hid hfl
                have HJ : Hid (j < ak.length) := by show j < ak.length; rw [← HAK.out, reach_len]; exact hjl
                clear hfl
                go_quiet ((go_at_call 47; (exact quiet_left ((following_q _ ak j _ (HS9.out.mono (below_draws (Below.refl _ _) _) fun _ _ h => h) HJ.out HFL.out).mono fun _ _ h => ⟨h.1, h.2.symm⟩))))
                have HSA := Lib.hid (HS8.out.draws nq)
                have hzA : Hid (S + 2 ≤ (w9.drewN nq).heap.size) := hz9
                have a0 : (w9.drewN nq).cell? ⟨P, 0, none⟩ = some (.slice a8 gc4.length c8) := p0
                have a1 : (w9.drewN nq).cell? ⟨P, 1, none⟩ = some vp5 := p1
                have a2 : (w9.drewN nq).cell? ⟨P, 2, none⟩ = some (.slice zn l.length zc) := p2
                have a3 : ∀ j, (w9.drewN nq).frozen? ⟨P, j, none⟩ = false := p3
                have a4 : P < (w9.drewN nq).heap.size := p4
                have b3 : (w9.drewN nq).cell? ⟨N, 3, none⟩ = some (.int .i64 (lS : Int)) := d3
                clear HS8 HD8 HS9 hz9 p0 p1 p2 p3 p4 d0 d1 d2 d3 d4
                generalize w9.drewN nq = wa at *
                have gstep4 : ∀ e, gAsk ak j x ⟨gc, gp, gs, gh⟩ = e → gStep f.nodes ak j ⟨gc, gp, gs, gh⟩ = e := fun e he => HGS.out.trans he
                by_cases hf : fl = (lS : Int)
                · have hne : (fl != (lS : Int)) = false := by rw [hf]; simp
                  have hG : gStep f.nodes ak j ⟨gc, gp, gs, gh⟩ = ⟨gc4, pp, gs.set j gc.length, gh1⟩ := by
                    refine gstep4 _ ?_
                    unfold gAsk
                    rw [if_neg (by rw [HFL.out, HLS.out, hf]; simp), HC4.out, HC3.out, HPP.out, HPK.out, HH1.out, ← HL3.out, HMR.out]
                    simp
                  have HST2 : Hid (gen f.nodes ak j ⟨gc4, pp, gs.set j gc.length, gh1⟩ = genAll f.nodes ak ∧ GOk f.nodes j ⟨gc4, pp, gs.set j gc.length, gh1⟩) := by
                    rw [hG] at HST HOK
                    exact ⟨HST.out, HOK.out⟩
                  clear hG gstep4 hf
                  go_wp2_with fail
                  go_roundw
                  case rel => exact ⟨j, _, _, _, _, rfl, by first | rfl | exact HWJ, by omega, HST2, HSA⟩
                  case measure => simp [intOf, HWJ.out]
                · have hne : (fl != (lS : Int)) = true := by simpa using hf
                  obtain ⟨gc5, hgc5⟩ : ∃ l : List Ins, l = gc4 ++ [⟨5, 0⟩] := ⟨_, rfl⟩
                  have hl6 : gc4.length + 1 = gc5.length := by rw [hgc5, List.length_append]; rfl
                  obtain ⟨gh2, hgh2⟩ : ∃ l : List (Nat × Nat), l = gh1 ++ [(gc4.length, lS)] := ⟨_, rfl⟩
                  have hl7 : gh1.length + 1 = gh2.length := by rw [hgh2, List.length_append]; rfl
                  have hG : gStep f.nodes ak j ⟨gc, gp, gs, gh⟩ = ⟨gc5, pp, gs.set j gc.length, gh2⟩ := by
                    refine gstep4 _ ?_
                    unfold gAsk
                    rw [if_pos (by rw [HFL.out, HLS.out]; exact hf), hgc5, HC4.out, HC3.out, HPP.out, HPK.out, hgh2, HH1.out, ← HL4.out, ← HL3.out, HMR.out, HLS.out]
                    simp
                  have HST2 : Hid (gen f.nodes ak j ⟨gc5, pp, gs.set j gc.length, gh2⟩ = genAll f.nodes ak ∧ GOk f.nodes j ⟨gc5, pp, gs.set j gc.length, gh2⟩) := by
                    rw [hG] at HST HOK
                    exact ⟨HST.out, HOK.out⟩
                  have HC5 := Lib.hid hgc5
                  have HH2 := Lib.hid hgh2
                  have HL6 := Lib.hid hl6
                  have HL7 := Lib.hid hl7
                  clear hG gstep4 hf hgc5 hgh2 hl6 hl7
                  go_wp2_with (first | (at_builtin; (refine wpList_append_own _ rfl _ _ 96 rfl (S + 2) 100 ih (.agg #[.int .i64 0, .int .i64 0]) 2 16 Tryd.underlying96 hih hhz0 hhz1 hhz2 rfl (by decide) _ _ _ rfl (HSA.out.2.2.2.1.alloc _) ⟨wa.heap.size, 0, none⟩ 1 1 [.int .i64 (gc4.length : Int), .int .i64 (lS : Int)] rfl rfl (cells_at _ _ _ _ _ rfl rfl) (gH_one (gc4.length, lS)) (by have := LEN.out; dsimp only; unfold maxLen; omega) (by have := LEN.out; dsimp only; omega) (by have := hzA.out; rw [size_alloc]; omega) ?_; intro vb wb2 hown' hgrow _; dsimp only at hown'; rw [HL7.out] at hown'; obtain ⟨ab, cb', rfl⟩ := own_shape hown'; have SB := gnsh HSA.out HH2.out hown' HL7.out.symm hgrow; have HSB := Lib.hid SB; obtain ⟨r0, r1, r2, r3, r4, -, -⟩ := SB.facts; have hzB : Hid (S + 2 ≤ wb2.heap.size) := SB.nums.2.2.2.2; clear SB hown' hgrow a0 a1 a2 a3 a4)) | (at_builtin; (refine wpList_append_own _ rfl _ _ 22 rfl (S + 2) 39 ii (.agg #[.int .i64 0, .int .i64 0]) 2 16 Tryd.underlying22 hii hiz0 hiz1 hiz2 rfl (by decide) _ _ _ rfl (HSB.out.2.1.alloc _) ⟨wb2.heap.size, 0, none⟩ 1 1 [.int .i64 5, .int .i64 0] rfl rfl (cells_at _ _ _ _ _ rfl rfl) (gXs_one [(⟨5, 0⟩ : Ins)]) (by have := LEN.out; dsimp only; unfold maxLen; omega) (by have := LEN.out; dsimp only; omega) (by have := hzB.out; rw [size_alloc]; omega) ?_; intro vd wd hown' hgrow _; dsimp only at hown'; rw [HL6.out] at hown'; obtain ⟨ad, cd, rfl⟩ := own_shape hown'; obtain ⟨⟨y0, y1, y2, y3⟩, y4, SD⟩ := gns1 (y := ⟨5, 0⟩) HSB.out HC5.out hown' HL6.out.symm hgrow; have HSD := Lib.hid SD; clear SD hown' hgrow r0 r1 r2 r3 r4)))
                  go_roundw
                  case rel => exact ⟨j, _, _, _, _, rfl, by first | rfl | exact HWJ, by omega, HST2, HSD⟩
                  case measure => simp [intOf, HWJ.out]
end Go.Proofs.YtlhidbbphngpcaaDoor
