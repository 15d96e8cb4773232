/-
  tree.shared.
-/
import Derived.Test.YtlhidbbphngpcaaOptI
import Derived.Test.YtlhidbbphngpcaaFwdD
import Derived.RegionTactic
import Derived.Deep.OwnRows
namespace Go.Proofs.Ytlhidbbphngpcaa
set_option linter.unusedVariables false
set_option linter.unusedSimpArgs false
open Go.ChangeShapes Go.WideShapes Go.ChangeAt Go.RowKit

def nowV (now : List Nat) (j : Nat) : Value := .int .i64 ((now.getD j 0 : Nat) : Int)
/-- the state of shared: H: the heap's size ahead; the map lies in block H, the places in block H + 1, the nodes' row from H + 2 on. -/
def ShS (w : World) (wr : World) (H n : Nat) (v : Value) (out : List Nod) (now : List Nat) : Prop :=
  wr.ownsRow (H + 2) 61 5 v out.length (out.flatMap encN) ∧ wr.rowIs (H + 1) 3 n (nowV now) ∧ (∃ D, MpN wr H out.length D ∧ ShM D out) ∧ Below H w wr ∧ H + 2 ≤ wr.heap.size
theorem ShS.new (w : World) (n : Nat) : ShS w ((w.alloc (.map #[] 0)).alloc (.cells (madeCells #[.int .i64 0] n) 3)) w.heap.size n (.slice none 0 0) [] [] := by
  have hs := size_alloc w (.map #[] 0)
  refine ⟨World.ownsRow_nil _ _ _ _, ?_, ?_, below_alloc2 (Nat.le_refl _) _ _, by rw [size_alloc, hs]; omega⟩
  · have := World.rowIs_made (w.alloc (.map #[] 0)) (.int .i64 0) n 3
    rw [hs] at this
    exact this.congr fun i hi => rfl
  · have hm := World.ownsMap_made (H := Unit) w Try.prog 61 (plainElem Try.prog 3)
    refine ⟨.map [], MpN.block hm ?_, ShM.zero⟩
    exact Below.heap_alloc _ _ _ (by rw [hs]; omega)
theorem ShS.alloc {w wr : World} {H n : Nat} {v : Value} {out : List Nod} {now : List Nat} (h : ShS w wr H n v out now) (o : Obj) : ShS w (wr.alloc o) H n v out now := by
  obtain ⟨h1, h2, ⟨D, h3, h4⟩, h5, h6⟩ := h
  exact ⟨h1.alloc _, h2.alloc _, ⟨D, h3.block (Below.heap_alloc _ _ _ (by omega)), h4⟩, h5.alloc (by omega) _, by rw [size_alloc]; omega⟩
theorem ShS.drw {w wr : World} {H n : Nat} {v : Value} {out : List Nod} {now : List Nat} (h : ShS w wr H n v out now) : ShS w wr.drew H n v out now := by
  obtain ⟨h1, h2, ⟨D, h3, h4⟩, h5, h6⟩ := h
  exact ⟨h1, h2, ⟨D, h3, h4⟩, h5.drew, h6⟩
/-- a cell of a box of its own. -/
theorem ShS.box {w wr : World} {H n N o : Nat} {v u : Value} {out : List Nod} {now : List Nat} (h : ShS w wr H n v out now) (hN : H + 2 ≤ N) (hne : v.ownBlock ≠ some N) : ShS w (wr.setCell ⟨N, o, none⟩ u) H n v out now := by
  obtain ⟨h1, h2, ⟨D, h3, h4⟩, h5, h6⟩ := h
  have k : ∀ c, c ≠ N → (wr.setCell ⟨N, o, none⟩ u).heap[c]? = wr.heap[c]? := fun c hc => Below.heap_setCell _ _ _ _ hc
  refine ⟨?_, h2.of_block (k _ (by omega)), ⟨D, h3.block (k _ (by omega)), h4⟩, h5.setCell (by show H ≤ N; omega) _, by rw [World.size_setCell]; exact h6⟩
  refine h1.kept (row := some N) ⟨rfl, rfl, rfl, by rw [World.size_setCell]; exact Nat.le_refl _, fun b _ hb => k b (fun e => hb (by rw [e]))⟩ (.inr hne)
/-- one more node in the row. -/
theorem ShS.push {w wr w7 : World} {H n : Nat} {v v' : Value} {o : Obj} {out : List Nod} {now : List Nat} {y : Nod} (h : ShS w wr H n v out now) (ho : w7.ownsRow (H + 2) 61 5 v' (out.length + 1) (out.flatMap encN ++ encN y)) (hg : (wr.alloc o).grownBy w7 v.ownBlock) :
    w7.ownsRow (H + 2) 61 5 v' (out ++ [y]).length ((out ++ [y]).flatMap encN) ∧ w7.rowIs (H + 1) 3 n (nowV now) ∧ (∀ m D, MpN wr H m D → MpN w7 H m D) ∧ Below H w w7 ∧ H + 2 ≤ w7.heap.size := by
  obtain ⟨h1, h2, h3, h5, h6⟩ := h
  have hs := size_alloc wr o
  have k : ∀ c, c < H + 2 → w7.heap[c]? = wr.heap[c]? := fun c hc =>
    (hg.block c (by omega) (fun e => by have := h1.lt c e.symm; omega)).trans (Below.heap_alloc _ _ _ (by omega))
  exact ⟨own_snocG ho, h2.of_block (k _ (by omega)), fun m D hm => hm.block (k _ (by omega)), (h5.alloc (by omega) _).grown hg (by omega) (fun g hg => by have := h1.lt g hg; omega), by have := hg.size; omega⟩
theorem ShS.mapd {w w7 w8 : World} {H n : Nat} {v' : Value} {out : List Nod} {now : List Nat} {D : DataW Unit} (h : w7.ownsRow (H + 2) 61 5 v' out.length (out.flatMap encN) ∧ w7.rowIs (H + 1) 3 n (nowV now) ∧ Below H w w7 ∧ H + 2 ≤ w7.heap.size)
    (hm : MpN w8 H out.length D) (hD : ShM D out) (hg : w7.grownBy w8 (some H)) : ShS w w8 H n v' out now := by
  obtain ⟨h1, h2, h5, h6⟩ := h
  refine ⟨h1.kept hg ?_, h2.of_block (hg.block _ (by omega) (by simp)), ⟨D, hm, hD⟩, h5.grown hg (by omega) (fun g hg => by cases hg; exact Nat.le_refl _), Nat.le_trans h6 hg.size⟩
  cases hv : v'.ownBlock with
  | none => exact .inl rfl
  | some g => right; intro e; injection e with e; have := h1.lt g hv; omega
theorem ShS.set {w wr : World} {H n k p : Nat} {v : Value} {out : List Nod} {now : List Nat} (h : ShS w wr H n v out now) (hk : now.length = k) (hn : k < n) : ShS w (wr.setCell ⟨H + 1, k, none⟩ (.int .i64 (p : Int))) H n v out (now ++ [p]) := by
  obtain ⟨h1, h2, ⟨D, h3, h4⟩, h5, h6⟩ := h
  have kk : ∀ c, c ≠ H + 1 → (wr.setCell ⟨H + 1, k, none⟩ (.int .i64 (p : Int))).heap[c]? = wr.heap[c]? := fun c hc => Below.heap_setCell _ _ _ _ hc
  refine ⟨ownsRow_setCell_below h1 (Nat.lt_succ_self _) _, (h2.set k _).congr fun i hi => ?_, ⟨D, h3.block (kk _ (by omega)), h4⟩, h5.setCell (by show H ≤ H + 1; omega) _, by rw [World.size_setCell]; exact h6⟩
  unfold nowV
  by_cases e : i = k
  · subst e
    rw [if_pos rfl, List.getD_eq_getElem?_getD, List.getElem?_append_right (by omega)]
    simp [hk]
  · rw [if_neg e]
    by_cases e2 : i < now.length
    · rw [getD_snoc e2]
    · rw [List.getD_eq_getElem?_getD, List.getD_eq_getElem?_getD, List.getElem?_eq_none (by omega), List.getElem?_eq_none (by simp; omega)]
/-- a node's box. -/
def NbB (wx : World) (N : Nat) (y : Nod) : Prop := (wx.cell? ⟨N, 0, none⟩ = some (.bool y.lf) ∧ wx.cell? ⟨N, 1, none⟩ = some (.int .i64 y.an) ∧ wx.cell? ⟨N, 2, none⟩ = some (.int .i64 y.bd) ∧ wx.cell? ⟨N, 3, none⟩ = some (.int .i64 y.ls) ∧ wx.cell? ⟨N, 4, none⟩ = some (.int .i64 y.mr)) ∧ (∀ j, wx.frozen? ⟨N, j, none⟩ = false) ∧ N < wx.heap.size
theorem NbB.new (w : World) (y : Nod) : NbB (w.alloc (.cells #[.bool y.lf, .int .i64 y.an, .int .i64 y.bd, .int .i64 y.ls, .int .i64 y.mr] 61)) w.heap.size y :=
  ⟨⟨World.cell?_alloc_at (w := w) _ _ w.heap.size 0 rfl, World.cell?_alloc_at (w := w) _ _ w.heap.size 1 rfl, World.cell?_alloc_at (w := w) _ _ w.heap.size 2 rfl, World.cell?_alloc_at (w := w) _ _ w.heap.size 3 rfl, World.cell?_alloc_at (w := w) _ _ w.heap.size 4 rfl⟩, fun j => World.frozen?_alloc_at (w := w) _ _ w.heap.size j rfl, by rw [size_alloc]; omega⟩
theorem NbB.grown {wx w' : World} {N : Nat} {y : Nod} {row : Option Nat} (h : NbB wx N y) (hg : wx.grownBy w' row) (hne : some N ≠ row) : NbB w' N y := by
  obtain ⟨⟨h0, h1, h2, h3, h4⟩, h5, h6⟩ := h
  have e := hg.block N h6 hne
  have c : ∀ j, w'.cell? ⟨N, j, none⟩ = wx.cell? ⟨N, j, none⟩ := fun j => World.cell?_of_block (a := ⟨N, j, none⟩) e
  exact ⟨⟨(c _).trans h0, (c _).trans h1, (c _).trans h2, (c _).trans h3, (c _).trans h4⟩, fun j => (World.frozen?_of_block (a := ⟨N, j, none⟩) e).trans (h5 j), Nat.lt_of_lt_of_le h6 hg.size⟩
theorem NbB.set34 {wx : World} {N : Nat} {y : Nod} (h : NbB wx N y) (a b : Int) : NbB ((wx.setCell ⟨N, 3, none⟩ (.int .i64 a)).setCell ⟨N, 4, none⟩ (.int .i64 b)) N ⟨y.lf, y.an, y.bd, a, b⟩ := by
  obtain ⟨⟨h0, h1, h2, h3, h4⟩, h5, h6⟩ := h
  refine ⟨⟨?_, ?_, ?_, ?_, ?_⟩, fun j => by rw [World.frozen?_setCell, World.frozen?_setCell]; exact h5 j, by rw [World.size_setCell, World.size_setCell]; exact h6⟩
  · rw [World.cell?_setCell_other (h := by simp), World.cell?_setCell_other (h := by simp)]; exact h0
  · rw [World.cell?_setCell_other (h := by simp), World.cell?_setCell_other (h := by simp)]; exact h1
  · rw [World.cell?_setCell_other (h := by simp), World.cell?_setCell_other (h := by simp)]; exact h2
  · rw [World.cell?_setCell_other (h := by simp)]; exact World.cell?_setCell_same (h := h3) ..
  · exact World.cell?_setCell_same (h := by rw [World.cell?_setCell_other (h := by simp)]; exact h4) ..
set_option maxRecDepth 100000 in
set_option maxHeartbeats 4000000 in
theorem shared_any (c : Int) (ns : List Nod) (v : Value) (w : World) (hv : SlAt w 5 RNod v ns) (ok : ∀ i (hi : i < ns.length), nodE c (i : Nat) ns[i] = 0) (h0 : 0 < ns.length) (h8 : ns.length ≤ 20000) :
    Calls Try.prog 53 #[v] w fun e w' => ∃ v' out now, e = .returned v' ∧ w'.ownsRow w.heap.size 61 5 v' out.length (out.flatMap encN) ∧ ShI ns ns.length out now ∧ (∀ n ∈ out, N64 n) ∧ Below w.heap.size w w' := by
  obtain ⟨av, cv, rfl, hm⟩ := hv.shape
  have hmk := run_make_row' (P := Try.prog) 34 3 (.int .i64 0) 8 Try.underlying34 info_int rfl .i64 .i64 ns.length (by omega) (by omega)
  have hmm := @run_makeMap Try.prog
  have hS0 := Lib.hid (ShS.new w ns.length)
  have HV := Lib.hid hv
  have HOK := Lib.hid ok
  have H8 := Lib.hid h8
  obtain ⟨it, hit, htz0, htz1, htz2⟩ := info_parts info_node
  clear hv ok hm h0
  go_enter Try.func53, Try.ntmps53
  go_wp2_with fail
  generalize (w.alloc (.map #[] 0)).alloc (.cells (madeCells #[.int .i64 0] ns.length) 3) = W1 at *
  go_loopw [3, 16] (fun vo t wr => ∃ (k : Nat) (out : List Nod) (now : List Nat), k ≤ ns.length ∧ t = .int .i64 (k : Int) ∧ Hid (ShS w wr w.heap.size ns.length vo out now) ∧ Hid (ShI ns k out now ∧ ∀ n ∈ out, N64 n) ∧ out.length ≤ k) (fun _ t _ => (ns.length - intOf t).toNat)
  case atStart => exact ⟨0, [], [], by omega, rfl, hS0, Lib.hid ⟨ShI.zero ns, fun n hn => by simp at hn⟩, Nat.le_refl _⟩
  case round =>
    obtain ⟨k, out, now, hk, rfl, hS, hI, hol⟩ := hrel
    obtain ⟨ao, co, rfl⟩ := own_shape hS.out.1
    by_cases hlt : k < ns.length
    · obtain ⟨b, off, rfl, hbb, d0, d1, d2, d3, d4⟩ := elemNod HV.out k hlt
      have hok := HOK.out k hlt
      have h64 := nods64 HV.out ns[k] (List.getElem_mem hlt)
      have HNEW : Hid (∀ p (hp : p < out.length), out[p] = renN now ns[k] → ShI ns (k + 1) out (now ++ [p])) := Lib.hid fun p hp e => hI.out.1.old HOK.out hlt hp e
      have HNEW2 : Hid ((∀ p (hp : p < out.length), out[p] ≠ renN now ns[k]) → ShI ns (k + 1) (out ++ [renN now ns[k]]) (now ++ [out.length])) := Lib.hid fun e => hI.out.1.new HOK.out hlt e
      have hbr := hS.out.2.2.2.1
      have c0 := (hbr.cell (p := ⟨b, off + k * 5, none⟩) hbb).trans d0
      have c1 := (hbr.cell (p := ⟨b, off + k * 5 + 1, none⟩) hbb).trans d1
      have c2 := (hbr.cell (p := ⟨b, off + k * 5 + 2, none⟩) hbb).trans d2
      have c3 := (hbr.cell (p := ⟨b, off + k * 5 + 3, none⟩) hbb).trans d3
      have c4 := (hbr.cell (p := ⟨b, off + k * 5 + 4, none⟩) hbb).trans d4
      have hlen := hI.out.1.len
      have hrow := hS.out.2.1
      have hH := hS.out.2.2.2.2
      have HLEN := Lib.hid hlen
      clear d0 d1 d2 d3 d4 hbr hmk hmm hlen
      generalize ns[k] = x at *
      have HS1 := Lib.hid (hS.out.alloc (.cells #[.bool x.lf, .int .i64 x.an, .int .i64 x.bd, .int .i64 x.ls, .int .i64 x.mr] 61))
      have HB1 := Lib.hid (NbB.new wr x)
      have hne : (Value.slice ao out.length co).ownBlock ≠ some wr.heap.size := fun e => by have := hS.out.1.lt _ e; omega
      have HNE := Lib.hid hne
      have HOK1 := Lib.hid hok
      have H64 := Lib.hid h64
      clear hne hrow hok h64 hS
      go_upto_if 23 with (fail)
      generalize wr.alloc (.cells #[.bool x.lf, .int .i64 x.an, .int .i64 x.bd, .int .i64 x.ls, .int .i64 x.mr] 61) = wa at *
      generalize wr.heap.size = N at *
      clear c0 c1 c2 c3 c4
      go_cut [] (fun wx => Hid (ShS w wx w.heap.size ns.length (.slice ao out.length co) out now) ∧ Hid (NbB wx N (renN now x)))
      case first =>
        cases e : x.lf
        · obtain ⟨_, e1, e2, e3, e4⟩ := nod_ask HOK1.out e
          obtain ⟨L, hL⟩ : ∃ L : Nat, x.ls = (L : Int) := ⟨x.ls.toNat, by omega⟩
          obtain ⟨R, hR⟩ : ∃ R : Nat, x.mr = (R : Int) := ⟨x.mr.toNat, by omega⟩
          have HE : Hid (renN now x = ⟨x.lf, x.an, x.bd, ((now.getD L 0 : Nat) : Int), ((now.getD R 0 : Nat) : Int)⟩) := by
            show _ = _
            rw [renN_ask e, hL, hR]; rfl
          obtain ⟨⟨b0, b1, b2, b3, b4⟩, bf, bz⟩ := HB1.out
          rw [hL] at b3
          rw [hR] at b4
          have rL := HS1.out.2.1.cell (i := L) (by omega)
          have rR := HS1.out.2.1.cell (i := R) (by omega)
          unfold nowV at rL rR
          have hLn : (L : Int) < (ns.length : Int) := by omega
          have hRn : (R : Int) < (ns.length : Int) := by omega
          have bf3 := bf 3
          have bf4 := bf 4
          have hNb : ¬ w.heap.size + 1 = N := by omega
          rw [e] at b0
          clear hL hR e1 e2 e3 e4 bf
          generalize now.getD L 0 = pL at *
          generalize now.getD R 0 = pR at *
          go_wp2_with fail
          have hHN : w.heap.size + 2 ≤ N := hH
          have HB2 : Hid (NbB ((wa.setCell ⟨N, 3, none⟩ (.int .i64 (pL : Int))).setCell ⟨N, 4, none⟩ (.int .i64 (pR : Int))).drew N (renN now x)) := by
            show NbB _ _ _
            rw [HE.out]; exact HB1.out.set34 _ _
          have HS2 := Lib.hid ((((HS1.out.box (o := 3) (u := .int .i64 (pL : Int)) hHN HNE.out)).box (o := 4) (u := .int .i64 (pR : Int)) hHN HNE.out).drw)
          go_region
          go_wp2_with fail
          go_meet
          exact ⟨HS2.out, HB2.out⟩
        · have HE : Hid (NbB wa N (renN now x)) := by
            show NbB _ _ _
            rw [renN_leaf e]; exact HB1.out
          obtain ⟨⟨b0, b1, b2, b3, b4⟩, -, -⟩ := HB1.out
          rw [e] at b0
          clear e
          go_wp2_with fail
          go_meet
          exact ⟨HS1.out, HE.out⟩
      case rest =>
        obtain ⟨HS2, HB2⟩ := hcut
        obtain ⟨_, _, ⟨D, hmD, hD⟩, _, hz2⟩ := HS2.out
        have y64 : N64 (renN now x) := by
          obtain ⟨q1, q2, q3, q4⟩ := H64.out
          have hx := HOK1.out
          have hpb : ∀ j, I64 ((now.getD j 0 : Nat) : Int) := fun j => i64_nat _ (by
            by_cases hj : j < now.length
            · rw [getD_at hj]
              obtain ⟨_, g1, g2, _⟩ := hI.out.1.img j (by rw [← HLEN.out]; exact hj)
              omega
            · rw [List.getD_eq_getElem?_getD, List.getElem?_eq_none (by omega)]; simp)
          cases e : x.lf
          · rw [renN_ask e]; exact ⟨q1, q2, hpb _, hpb _⟩
          · rw [renN_leaf e]; exact ⟨q1, q2, q3, q4⟩
        clear HS1 HB1 HOK1 H64
        generalize renN now x = y at *
        have HKK := Lib.hid (kN_eq y64)
        obtain ⟨hh1, hh2⟩ := hD.2 y y64
        obtain ⟨pb, hpb⟩ : ∃ pb, Maps.has D (kN y) = pb := ⟨_, rfl⟩
        rw [hpb] at hh1
        have HH1 := Lib.hid hh1
        have HH2 := Lib.hid hh2
        have HD := Lib.hid hD
        have HM := Lib.hid hmD
        have HPB := Lib.hid hpb
        have HY := Lib.hid y64
        obtain ⟨⟨b0, b1, b2, b3, b4⟩, bf, bz⟩ := HB2.out
        clear hD hmD hh1 hh2 hpb y64 hlt bf
        go_upto_if 43 with (at_lookup; (refine wpList_lookup_own_ok_int (H := Unit) _ rfl _ _ 112 rfl 61 3 .i64 nlaw Try.underlying112 Try.underlying3 (vzeroZ _) w.heap.size out.length D rfl HM.out (nV y) (kN y) rfl HKK.out ?_; intro c hat hwc; rw [HPB.out]; have HAT := Lib.hid hat; clear hat))
        go_cut [3, 8] (fun vo kk wx => ∃ (p : Nat) (out2 : List Nod) (a2 : Option Addr) (c2 : Nat), vo = .slice a2 out2.length c2 ∧ kk = .int .i64 (p : Int) ∧ Hid (ShS w wx w.heap.size ns.length (.slice a2 out2.length c2) out2 now) ∧ Hid (ShI ns (k + 1) out2 (now ++ [p]) ∧ ∀ n ∈ out2, N64 n) ∧ out2.length ≤ k + 1)
        case first =>
          cases pb with
          | true =>
            have hin : y ∈ out := HH1.out.1 rfl
            obtain ⟨i0, hi0, e0⟩ := List.mem_iff_getElem.1 hin
            obtain ⟨p, ⟨hp1, hp2⟩, -⟩ := least (p := fun q => out[q]? = some y) i0 (by rw [List.getElem?_eq_getElem hi0, e0])
            obtain ⟨hp, e1⟩ := List.getElem?_eq_some_iff.1 hp1
            obtain rfl : c = (p : Int) := dI_injZ ((HH2.out p hp1 hp2).symm.trans HAT.out)
            have HI2 : Hid (ShI ns (k + 1) out (now ++ [p]) ∧ ∀ n ∈ out, N64 n) := ⟨HNEW.out p hp e1, hI.out.2⟩
            clear hin e0 hp1 hp2 e1 hp
            go_wp2_with fail
            go_meet
            exact ⟨p, out, ao, co, rfl, rfl, HS2.out, HI2.out, by omega⟩
          | false =>
            have hout : y ∉ out := fun h => by have := HH1.out.2 h; cases this
            have HI2 : Hid (ShI ns (k + 1) (out ++ [y]) (now ++ [out.length]) ∧ ∀ n ∈ out ++ [y], N64 n) := by
              refine ⟨HNEW2.out fun p hp e => hout (by rw [← e]; exact List.getElem_mem hp), fun n hn => ?_⟩
              rcases List.mem_append.1 hn with h | h
              · exact hI.out.2 n h
              · rw [List.mem_singleton.1 h]; exact HY.out
            have HSM := Lib.hid (HD.out.put hI.out.2 HY.out hout)
            have HPA := Lib.hid (pelZ (out.length : Int) (i64_nat _ (by have := H8.out; omega)))
            have hol8 : out.length ≤ 20000 := by omega
            clear hout
            go_upto_region 13 with (at_builtin; (refine wpList_append_own _ rfl _ _ 23 rfl (w.heap.size + 2) 61 it (.agg #[.bool false, .int .i64 0, .int .i64 0, .int .i64 0, .int .i64 0]) 5 40 Try.underlying23 hit htz0 htz1 htz2 rfl (by decide) (.slice ao out.length co) out.length (out.flatMap encN) rfl (HS2.out.1.alloc _) ⟨wc.heap.size, 0, none⟩ 1 1 (encN y) rfl rfl (cells_at _ _ _ _ _ rfl rfl) (encN_one _) (by unfold maxLen; omega) (by omega) (by rw [size_alloc]; omega) ?_; intro v7 w7 hown' hgrow _; obtain ⟨a7, c7, rfl⟩ := own_shape hown'))
            have HP7 := Lib.hid (HS2.out.push hown' hgrow)
            have HB7 := Lib.hid ((HB2.out.grown (World.grownBy_alloc wc (.cells (encN y).toArray 61) none) (by simp)).grown hgrow (fun e => HNE.out e.symm))
            have HM7 := Lib.hid (HP7.out.2.2.1 _ _ HM.out)
            clear hown' hgrow b0 b1 b2 b3 b4 bz
            obtain ⟨⟨b0, b1, b2, b3, b4⟩, -, bz⟩ := HB7.out
            go_wp2_with (at_mapUpdate; (refine wpList_mapUpdate_own (H := Unit) _ rfl _ _ _ 112 rfl 61 3 nlaw Try.underlying112 (plainElem Try.prog 3) w.heap.size out.length D rfl HM7.out (by unfold maxLen; omega) (nV y) (.int .i64 (out.length : Int)) (kN y) rfl rfl HKK.out (dIZ out.length) [] HPA.out ?_; intro w8 hom hgm))
            go_meet
            refine ⟨out.length, out ++ [y], a7, c7, by rw [List.length_append]; rfl, rfl, ?_, HI2.out, by rw [List.length_append]; simp; omega⟩
            have h7 := HP7.out
            refine ShS.mapd ⟨?_, h7.2.1, h7.2.2.2⟩ (by rw [List.length_append]; exact hom) HSM.out hgm
            have := h7.1
            rw [List.length_append] at this ⊢
            exact this
        case rest =>
          obtain ⟨p, out2, a2, c2, rfl, rfl, HS3, HI3, hol3⟩ := hcut
          clear b0 b1 b2 b3 b4 bz hz2
          have hkl : k < ns.length := by have := HI3.out.1.le; omega
          have hki : (k : Int) < (ns.length : Int) := by omega
          have rk := HS3.out.2.1.cell (i := k) hkl
          have rf := HS3.out.2.1.frozen
          have rz := HS3.out.2.1.lt
          unfold nowV at rk
          have HS4 := Lib.hid (HS3.out.set (p := p) HLEN.out hkl)
          generalize now.getD k 0 = nk at *
          go_wp2_with fail
          go_roundw
          case rel => exact ⟨k + 1, out2, now ++ [p], by omega, by go_num, HS4, HI3, hol3⟩
          case measure => simp [intOf]; omega
    · have hkx : k = ns.length := by omega
      subst hkx
      go_wp2_with fail
      go_ret
      exact ⟨_, out, now, rfl, ownsRow_base (by omega) hS.out.1, hI.out.1, hI.out.2, hS.out.2.2.2.1⟩
end Go.Proofs.Ytlhidbbphngpcaa
