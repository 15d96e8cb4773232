/-
  The law GapsTold.
-/
import Derived.Test.YtlhidbbphngpcaaInvI
import Derived.Test.YtlhidbbphngpcaaKf
namespace Go.Proofs.Ytlhidbbphngpcaa
set_option linter.unusedVariables false
set_option linter.unusedSimpArgs false
open Go.ChangeShapes Go.WideShapes Go.ChangeAt Go.RowKit

theorem inv_few {xs : List Spn} (h : xs.length ≤ 6) : invE xs = false := by
  unfold invE
  rw [Bool.or_eq_false_iff, List.any_eq_false, decide_eq_false_iff_not]
  have key : ∀ t, bigA (tellA (segs xs) t) = false := fun t => by
    have h1 := offs_len (segs xs) t
    rw [segs_len] at h1
    have h2 : (tellA (segs xs) t).offs = offsAt (segs xs) t := rfl
    unfold bigA
    rw [h2, decide_eq_false_iff_not]
    omega
  have h3 : (atS xs).length ≤ 2 * xs.length := by
    refine Nat.le_trans (srtC_len _) ?_
    rw [atL_len, segs_len]
    exact Nat.le_refl _
  refine ⟨fun a ha => ?_, by rw [invAn_len]; omega⟩
  unfold invAn at ha
  rcases List.mem_cons.1 ha with rfl | ha
  · rw [key]; simp
  · obtain ⟨t, _, rfl⟩ := List.mem_map.1 ha
    rw [key]; simp
theorem offs_two (a b : Spn) (t : Int) : offsAt (segs [a, b]) t = (if a.fr + a.ck.off ≤ t ∧ t < b.fr + a.ck.off then [a.ck.off] else []) ++ (if b.fr + b.ck.off ≤ t ∧ t < 4102444800 + b.ck.off then [b.ck.off] else []) := by
  have e : segs [a, b] = [⟨a.fr + a.ck.off, b.fr + a.ck.off, a.ck.off, a.fr⟩, ⟨b.fr + b.ck.off, 4102444800 + b.ck.off, b.ck.off, b.fr⟩] := rfl
  rw [e]
  unfold offsAt inS
  by_cases h1 : a.fr + a.ck.off ≤ t ∧ t < b.fr + a.ck.off <;> by_cases h2 : b.fr + b.ck.off ≤ t ∧ t < 4102444800 + b.ck.off <;> simp [List.filter_cons, h1, h2]
theorem jump_two (a b : Spn) (t : Int) : jumpAt (segs [a, b]) t = if t < a.fr + a.ck.off then a.fr else if t < b.fr + b.ck.off then b.fr else 4102444800 := by
  have e : segs [a, b] = [⟨a.fr + a.ck.off, b.fr + a.ck.off, a.ck.off, a.fr⟩, ⟨b.fr + b.ck.off, 4102444800 + b.ck.off, b.ck.off, b.fr⟩] := rfl
  rw [e]
  unfold jumpAt
  by_cases h1 : t < a.fr + a.ck.off <;> by_cases h2 : t < b.fr + b.ck.off <;> simp [List.find?_cons, h1, h2]
theorem tell_two (a b : Spn) (t : Int) {os : List Int} {j : Int} (ho : (if a.fr + a.ck.off ≤ t ∧ t < b.fr + a.ck.off then [a.ck.off] else []) ++ (if b.fr + b.ck.off ≤ t ∧ t < 4102444800 + b.ck.off then [b.ck.off] else []) = os) (hj : (if os.length = 0 then if t < a.fr + a.ck.off then a.fr else if t < b.fr + b.ck.off then b.fr else 4102444800 else 0) = j) : tellA (segs [a, b]) t = ⟨⟨0, false, ⟨#[]⟩⟩, os, j⟩ := by
  unfold tellA
  rw [offs_two, ho, jump_two, hj]
theorem spn_two (a b : Spn) (h0 : a.fr = -2208988800) (h1 : -2208988800 < b.fr) (h2 : b.fr < 4102444800) (ha : a.ck.nm.size = 0) (hb : b.ck.nm.size = 0) (h3 : -172800 ≤ a.ck.off ∧ a.ck.off ≤ 172800) (h4 : -172800 ≤ b.ck.off ∧ b.ck.off ≤ 172800) : spnE [a, b] = 0 := by
  have e0 : prevF [a, b] 1 = a.fr := rfl
  unfold spnE
  rw [if_neg (by simp), if_neg (by simp)]
  refine ferr_none _ _ _ fun i hi => ?_
  match i, hi with
  | 0, _ =>
    show spE [a, b] 0 a = 0
    unfold spE
    simp [h0, ha]
    omega
  | 1, _ =>
    show spE [a, b] 1 b = 0
    unfold spE
    rw [e0]
    simp [h0, hb]
    omega
theorem inv_eval {xs : List Spn} (hg : spnE xs = 0) (hE : invE xs = false) (t : Int) {os : List Int} {j : Int} (hA : tellA (segs xs) t = ⟨⟨0, false, ⟨#[]⟩⟩, os, j⟩) (vn va : Value) (w : World) (hf : FrsAt w vn va (invF xs)) :
    Calls Try.prog 20 #[.agg #[vn, va], .int .i64 t] w fun e w' => ∃ a c, e = .returned (.tuple #[.agg #[.int .i64 0, .bool false, .string ⟨#[]⟩, .slice a os.length c, .int .i64 j], .int .i64 0]) ∧ w'.ownsRow w.heap.size 3 1 (.slice a os.length c) os.length (os.flatMap encI) ∧ Below w.heap.size w w' := by
  obtain ⟨n0, n1, -⟩ := spn_good hg
  obtain ⟨i, hi, hL, he⟩ := inv_lf n0 t
  refine (eval_ok (invF xs) vn va t i w hf (inv_good hg hE) hL hi).mono ?_
  have hea : (invF xs).answers[i]'hi = ⟨⟨0, false, ⟨#[]⟩⟩, os, j⟩ := he.trans hA
  rw [hea]
  rintro e w' ⟨v', rfl, ho, hb⟩
  obtain ⟨a, c, rfl⟩ := own_shape ho
  exact ⟨a, c, rfl, ho, hb⟩
theorem box_set {W : World} {B : Nat} {cs : Array Value} {t : TypeId} (h : W.heap[B]? = some (.cells cs t (0, 0))) (i : Nat) (u : Value) : (W.setCell ⟨B, i, none⟩ u).heap[B]? = some (.cells (cs.setIfInBounds i u) t (0, 0)) := by
  simp [World.setCell, Array.getElem?_modify, h]
theorem ABx.set5 {W : World} {G : Nat} {v0 : Value} {j0 : Int} (h : ABx W G v0 j0) (vo : Value) (j : Int) : ABx (((((W.setCell ⟨G, 0, none⟩ (.int .i64 0)).setCell ⟨G, 1, none⟩ (.bool false)).setCell ⟨G, 2, none⟩ (.string ⟨#[]⟩)).setCell ⟨G, 3, none⟩ vo).setCell ⟨G, 4, none⟩ (.int .i64 j)) G vo j :=
  box_set (box_set (box_set (box_set (box_set h 0 _) 1 _) 2 _) 3 _) 4 _
theorem ABx.new (w : World) (vo : Value) (j : Int) : ABx (w.alloc (.cells #[.int .i64 0, .bool false, .string ⟨#[]⟩, vo, .int .i64 j] 39)) w.heap.size vo j := World.alloc_heap_new w _
theorem ABx.below {w w' : World} {G B : Nat} {vo : Value} {j : Int} (h : ABx w G vo j) (hb : Below B w w') (hG : G < B) : ABx w' G vo j := (hb.block G hG).trans h
def Sp4 (w : World) (S : Nat) (o : Int) : Prop := w.cell? ⟨S, 0, none⟩ = some (.int .i64 (-2208988800)) ∧ w.cell? ⟨S, 1, none⟩ = some (.int .i64 o) ∧ w.cell? ⟨S, 2, none⟩ = some (.bool false) ∧ w.cell? ⟨S, 3, none⟩ = some (.string ⟨#[]⟩) ∧ S < w.heap.size
theorem Sp4.next {w w' : World} {S : Nat} {o : Int} (h : Sp4 w S o) (hb : Below w.heap.size w w') : Sp4 w' S o := by
  obtain ⟨a, b, c, d, z⟩ := h
  exact ⟨(hb.cell (p := ⟨S, 0, none⟩) z).trans a, (hb.cell (p := ⟨S, 1, none⟩) z).trans b, (hb.cell (p := ⟨S, 2, none⟩) z).trans c, (hb.cell (p := ⟨S, 3, none⟩) z).trans d, Nat.lt_of_lt_of_le z hb.size⟩
theorem FBx.next {w w' : World} {O : Nat} {vn va : Value} (h : FBx w O vn va) (hb : Below w.heap.size w w') : FBx w' O vn va := h.below hb h.2.2.2
theorem ABx.next {w w' : World} {G : Nat} {vo : Value} {j : Int} (h : ABx w G vo j) (hb : Below w.heap.size w w') : ABx w' G vo j := h.below hb h.lt
/-- two spans in a block of their own. -/
theorem two_at (w : World) (a b : Spn) (ha : I64 a.fr ∧ I64 a.ck.off ∧ a.ck.nm.size ≤ maxLen) (hb : I64 b.fr ∧ I64 b.ck.off ∧ b.ck.nm.size ≤ maxLen) (t : TypeId) : SlAt (w.alloc (.cells #[.int .i64 a.fr, .int .i64 a.ck.off, .bool a.ck.sav, .string a.ck.nm, .int .i64 b.fr, .int .i64 b.ck.off, .bool b.ck.sav, .string b.ck.nm] t)) 4 RSpn (.slice (some ⟨w.heap.size, 0, none⟩) 2 2) [a, b] := by
  refine .inr ⟨w.heap.size, 0, 2, rfl, by simp, by simp, by unfold maxLen; omega, by rw [size_alloc]; omega, fun i hi => ?_⟩
  match i, hi with
  | 0, _ =>
    refine ⟨[.int .i64 a.fr, .int .i64 a.ck.off, .bool a.ck.sav, .string a.ck.nm], rfl, ⟨rfl, ha⟩, fun j hj => ?_⟩
    match j, hj with
    | 0, _ => exact World.cell?_alloc_at (w := w) _ _ w.heap.size 0 rfl
    | 1, _ => exact World.cell?_alloc_at (w := w) _ _ w.heap.size 1 rfl
    | 2, _ => exact World.cell?_alloc_at (w := w) _ _ w.heap.size 2 rfl
    | 3, _ => exact World.cell?_alloc_at (w := w) _ _ w.heap.size 3 rfl
  | 1, _ =>
    refine ⟨[.int .i64 b.fr, .int .i64 b.ck.off, .bool b.ck.sav, .string b.ck.nm], rfl, ⟨rfl, hb⟩, fun j hj => ?_⟩
    match j, hj with
    | 0, _ => exact World.cell?_alloc_at (w := w) _ _ w.heap.size 4 rfl
    | 1, _ => exact World.cell?_alloc_at (w := w) _ _ w.heap.size 5 rfl
    | 2, _ => exact World.cell?_alloc_at (w := w) _ _ w.heap.size 6 rfl
    | 3, _ => exact World.cell?_alloc_at (w := w) _ _ w.heap.size 7 rfl
set_option maxRecDepth 100000 in
set_option maxHeartbeats 4000000 in
theorem walkGapsTold (off n more : Int) (W : World) (ho : (Lit.int .i64 off).wf = true) (hn : (Lit.int .i64 n).wf = true) (hm : (Lit.int .i64 more).wf = true) :
    Calls Try.prog 4 #[.int .i64 off, .int .i64 n, .int .i64 more] W fun e w' => e = .returned (.bool true) ∧ Below W.heap.size W w' := by
  have HPM := Lib.hid (fun w => picked_v more 7200 w hm (by omega) (by omega))
  have HPO := Lib.hid (fun w => picked_v off 7200 w ho (by omega) (by omega))
  have HPN := Lib.hid (fun w => picked_v n 1000000 w hn (by omega) (by omega))
  obtain ⟨pm0, pm1⟩ := pkv_bd more 7200 (by omega)
  obtain ⟨po0, po1⟩ := pkv_bd off 7200 (by omega)
  obtain ⟨pn0, pn1⟩ := pkv_bd n 1000000 (by omega)
  have HN := Lib.hid hn
  clear ho hn hm
  generalize pkv more 7200 = mo at *
  generalize pkv off 7200 = o at *
  generalize pkv n 1000000 = q at *
  go_enter Try.func4, Try.ntmps4
  go_wp2_with (go_at_call 18; refine (winIn _).mono ?_; rintro e w' ⟨rfl, rfl⟩)
  refine (HPM.out _).mono ?_; rintro e w' ⟨rfl, rfl⟩
  go_wp2_with fail
  refine (HPO.out _).mono ?_; rintro e w' ⟨rfl, rfl⟩
  go_wp2_with fail
  refine (HPN.out _).mono ?_; rintro e w' ⟨rfl, rfl⟩
  go_wp2_with fail
  have hkk : 1 ≤ 1 + mo ∧ 1 + mo ≤ 7200 := by omega
  have hta : -2207988800 ≤ -2207988800 + q ∧ -2207988800 + q < -2206988800 := by omega
  generalize 1 + mo = kk at *
  generalize -2207988800 + q = ta at *
  obtain ⟨k1, k2⟩ := hkk
  obtain ⟨ta1, ta2⟩ := hta
  have HPK := Lib.hid (fun w => picked_v n kk w HN.out (by omega) (by omega))
  obtain ⟨p0, p1⟩ := pkv_bd n kk (by omega)
  generalize pkv n kk = p at *
  clear HPM HPO HPN HN pm0 pm1 pn0 pn1
  have HG1 : Hid (spnE [⟨-2208988800, ⟨o, false, ⟨#[]⟩⟩⟩, ⟨ta, ⟨o + kk, false, ⟨#[]⟩⟩⟩] = 0) := spn_two _ _ rfl (by show (-2208988800 : Int) < ta; omega) (by show ta < 4102444800; omega) rfl rfl (by show -172800 ≤ o ∧ o ≤ 172800; omega) (by show -172800 ≤ o + kk ∧ o + kk ≤ 172800; omega)
  have HG2 : Hid (spnE [⟨-2208988800, ⟨o, false, ⟨#[]⟩⟩⟩, ⟨ta, ⟨o - kk, false, ⟨#[]⟩⟩⟩] = 0) := spn_two _ _ rfl (by show (-2208988800 : Int) < ta; omega) (by show ta < 4102444800; omega) rfl rfl (by show -172800 ≤ o ∧ o ≤ 172800; omega) (by show -172800 ≤ o - kk ∧ o - kk ≤ 172800; omega)
  have HS1 := Lib.hid (two_at W ⟨-2208988800, ⟨o, false, ⟨#[]⟩⟩⟩ ⟨ta, ⟨o + kk, false, ⟨#[]⟩⟩⟩ ⟨i64_of (by show _ ≤ (-2208988800 : Int); omega) (by show (-2208988800 : Int) ≤ _; omega), i64_of (by show _ ≤ o; omega) (by show o ≤ _; omega), Nat.zero_le _⟩ ⟨i64_of (by show _ ≤ ta; omega) (by show ta ≤ _; omega), i64_of (by show _ ≤ o + kk; omega) (by show o + kk ≤ _; omega), Nat.zero_le _⟩ 50)
  have HC1 := Lib.hid (inverse_ok _ _ _ HS1.out HG1.out)
  have HB1 : Hid (Below W.heap.size W (W.alloc (.cells #[.int .i64 (-2208988800), .int .i64 o, .bool false, .string ⟨#[]⟩, .int .i64 ta, .int .i64 (o + kk), .bool false, .string ⟨#[]⟩] 50))) := (Below.refl _ _).alloc (Nat.le_refl _) _
  have a0 : (W.alloc (.cells #[.int .i64 (-2208988800), .int .i64 o, .bool false, .string ⟨#[]⟩, .int .i64 ta, .int .i64 (o + kk), .bool false, .string ⟨#[]⟩] 50)).cell? ⟨W.heap.size, 0, none⟩ = some (.int .i64 (-2208988800)) := World.cell?_alloc_at (w := W) _ _ W.heap.size 0 rfl
  have a1 : (W.alloc (.cells #[.int .i64 (-2208988800), .int .i64 o, .bool false, .string ⟨#[]⟩, .int .i64 ta, .int .i64 (o + kk), .bool false, .string ⟨#[]⟩] 50)).cell? ⟨W.heap.size, 1, none⟩ = some (.int .i64 o) := World.cell?_alloc_at (w := W) _ _ W.heap.size 1 rfl
  have a2 : (W.alloc (.cells #[.int .i64 (-2208988800), .int .i64 o, .bool false, .string ⟨#[]⟩, .int .i64 ta, .int .i64 (o + kk), .bool false, .string ⟨#[]⟩] 50)).cell? ⟨W.heap.size, 2, none⟩ = some (.bool false) := World.cell?_alloc_at (w := W) _ _ W.heap.size 2 rfl
  have a3 : (W.alloc (.cells #[.int .i64 (-2208988800), .int .i64 o, .bool false, .string ⟨#[]⟩, .int .i64 ta, .int .i64 (o + kk), .bool false, .string ⟨#[]⟩] 50)).cell? ⟨W.heap.size, 3, none⟩ = some (.string ⟨#[]⟩) := World.cell?_alloc_at (w := W) _ _ W.heap.size 3 rfl
  have az : W.heap.size < (W.alloc (.cells #[.int .i64 (-2208988800), .int .i64 o, .bool false, .string ⟨#[]⟩, .int .i64 ta, .int .i64 (o + kk), .bool false, .string ⟨#[]⟩] 50)).heap.size := by rw [size_alloc]; exact Nat.lt_succ_self _
  generalize W.alloc (.cells #[.int .i64 (-2208988800), .int .i64 o, .bool false, .string ⟨#[]⟩, .int .i64 ta, .int .i64 (o + kk), .bool false, .string ⟨#[]⟩] 50) = w1 at *
  refine HC1.out.mono ?_; intro e w2 hIR
  obtain ⟨cn0, cn1, ca0, ca1, rfl, hfa, hb2⟩ := hIR.shape (inv_few (by show 2 ≤ 6; omega))
  have HFA := Lib.hid hfa
  have HB2 := Lib.hid (HB1.out.trans (hb2.mono HB1.out.size))
  have e0 := (hb2.cell (p := ⟨W.heap.size, 0, none⟩) az).trans a0
  have e1 := (hb2.cell (p := ⟨W.heap.size, 1, none⟩) az).trans a1
  have e2 := (hb2.cell (p := ⟨W.heap.size, 2, none⟩) az).trans a2
  have e3 := (hb2.cell (p := ⟨W.heap.size, 3, none⟩) az).trans a3
  have ez := Nat.lt_of_lt_of_le az hb2.size
  clear hIR hfa hb2 HC1 HS1 HB1 a0 a1 a2 a3 az
  generalize hF1 : invF [⟨-2208988800, ⟨o, false, ⟨#[]⟩⟩⟩, ⟨ta, ⟨o + kk, false, ⟨#[]⟩⟩⟩] = f1 at *
  generalize f1.nodes.length = nn at *
  generalize f1.answers.length = na at *
  have HEV : Hid (∀ (t : Int) (os : List Int) (j : Int), tellA (segs [⟨-2208988800, ⟨o, false, ⟨#[]⟩⟩⟩, ⟨ta, ⟨o + kk, false, ⟨#[]⟩⟩⟩]) t = ⟨⟨0, false, ⟨#[]⟩⟩, os, j⟩ → ∀ (vn va : Value) (w : World), FrsAt w vn va f1 → Calls Try.prog 20 #[.agg #[vn, va], .int .i64 t] w fun e w' => ∃ a c, e = .returned (.tuple #[.agg #[.int .i64 0, .bool false, .string ⟨#[]⟩, .slice a os.length c, .int .i64 j], .int .i64 0]) ∧ w'.ownsRow w.heap.size 3 1 (.slice a os.length c) os.length (os.flatMap encI) ∧ Below w.heap.size w w') := fun t os j hA vn va w hf => inv_eval HG1.out (inv_few (by show 2 ≤ 6; omega)) t hA vn va w (by rw [hF1]; exact hf)
  clear hF1
  have HT1 : Hid (∀ (vn va : Value) (w : World), FrsAt w vn va f1 → Calls Try.prog 20 #[.agg #[vn, va], .int .i64 (ta + o + p)] w fun e w' => ∃ a c, e = .returned (.tuple #[.agg #[.int .i64 0, .bool false, .string ⟨#[]⟩, .slice a 0 c, .int .i64 (ta)], .int .i64 0]) ∧ Below w.heap.size w w') := fun vn va w hf => (HEV.out (ta + o + p) [] ta (tell_two _ _ _ (by dsimp only; rw [if_neg (by omega), if_neg (by omega)]; rfl) (by dsimp only; rw [if_pos List.length_nil, if_neg (by omega), if_pos (by omega)])) vn va w hf).mono fun e w' ⟨a, c, he, _, hb⟩ => ⟨a, c, he, hb⟩
  have HT2 : Hid (∀ (vn va : Value) (w : World), FrsAt w vn va f1 → Calls Try.prog 20 #[.agg #[vn, va], .int .i64 (-2208988800 + o - 1)] w fun e w' => ∃ a c, e = .returned (.tuple #[.agg #[.int .i64 0, .bool false, .string ⟨#[]⟩, .slice a 0 c, .int .i64 (-2208988800)], .int .i64 0]) ∧ Below w.heap.size w w') := fun vn va w hf => (HEV.out (-2208988800 + o - 1) [] (-2208988800) (tell_two _ _ _ (by dsimp only; rw [if_neg (by omega), if_neg (by omega)]; rfl) (by dsimp only; rw [if_pos List.length_nil, if_pos (by omega)])) vn va w hf).mono fun e w' ⟨a, c, he, _, hb⟩ => ⟨a, c, he, hb⟩
  have HT3 : Hid (∀ (vn va : Value) (w : World), FrsAt w vn va f1 → Calls Try.prog 20 #[.agg #[vn, va], .int .i64 (4102444800 + o + kk)] w fun e w' => ∃ a c, e = .returned (.tuple #[.agg #[.int .i64 0, .bool false, .string ⟨#[]⟩, .slice a 0 c, .int .i64 (4102444800)], .int .i64 0]) ∧ Below w.heap.size w w') := fun vn va w hf => (HEV.out (4102444800 + o + kk) [] 4102444800 (tell_two _ _ _ (by dsimp only; rw [if_neg (by omega), if_neg (by omega)]; rfl) (by dsimp only; rw [if_pos List.length_nil, if_neg (by omega), if_neg (by omega)])) vn va w hf).mono fun e w' ⟨a, c, he, _, hb⟩ => ⟨a, c, he, hb⟩
  clear HEV
  have ba := (Below.refl w2.heap.size w2).alloc (Nat.le_refl _) (.cells #[Value.slice cn0 nn cn1, Value.slice ca0 na ca1] 26)
  have HX3 := Lib.hid (FBx.new w2 (.slice cn0 nn cn1) (.slice ca0 na ca1))
  have HW3 := Lib.hid (HB2.out.trans (ba.mono HB2.out.size))
  have HFA3 := Lib.hid (HFA.out.mono ba)
  have HSP := Lib.hid (Sp4.next ⟨e0, e1, e2, e3, ez⟩ ba)
  clear ba HFA HB2 e0 e1 e2 e3 ez
  go_upto_region 7 with (fail)
  generalize w2.alloc (.cells #[Value.slice cn0 nn cn1, Value.slice ca0 na ca1] 26) = w3 at *
  generalize w2.heap.size = O at *
  obtain ⟨x0, x1, x2, x3⟩ := HX3.out
  have HFM : Hid (∀ w', Below w3.heap.size w3 w' → FrsAt w' (.slice cn0 nn cn1) (.slice ca0 na ca1) f1) := fun w' h => HFA3.out.mono h
  have HOD : Hid (FBx w3.drew O (.slice cn0 nn cn1) (.slice ca0 na ca1)) := HX3.out
  have HOA : Hid (∀ o, FBx ((w3.alloc o).drew) O (.slice cn0 nn cn1) (.slice ca0 na ca1)) := fun o => HX3.out.below ((Below.refl _ _).alloc (Nat.le_refl _) o).drew HX3.out.2.2.2
  have HRD : Hid (Below w3.heap.size w3 w3.drew) := Lib.hid (Below.refl _ _).drew
  have HRA : Hid (∀ o, Below w3.heap.size w3 ((w3.alloc o).drew)) := fun o => ((Below.refl _ _).alloc (Nat.le_refl _) o).drew
  have HNX : Hid (∀ w9, Below w3.drew.heap.size w3.drew w9 → FBx w9 O (.slice cn0 nn cn1) (.slice ca0 na ca1) ∧ Below w3.heap.size w3 w9) := fun w9 hb => ⟨HOD.out.below hb HOD.out.2.2.2, HRD.out.trans (hb.mono HRD.out.size)⟩
  have HNA : Hid (∀ w9, Below ((w3.alloc (.cells #[.int .i64 0, .bool false, .string ⟨#[]⟩, .slice none 0 0, .int .i64 0] 39)).drew).heap.size ((w3.alloc (.cells #[.int .i64 0, .bool false, .string ⟨#[]⟩, .slice none 0 0, .int .i64 0] 39)).drew) w9 → FBx w9 O (.slice cn0 nn cn1) (.slice ca0 na ca1) ∧ Below w3.heap.size w3 w9 ∧ ABx w9 w3.heap.size (.slice none 0 0) 0) := fun w9 hb => ⟨(HOA.out _).below hb (HOA.out _).2.2.2, (HRA.out _).trans (hb.mono (HRA.out _).size), ABx.below (w := (w3.alloc (.cells #[.int .i64 0, .bool false, .string ⟨#[]⟩, .slice none 0 0, .int .i64 0] 39)).drew) (ABx.new w3 (.slice none 0 0) 0) hb (by show w3.heap.size < (w3.alloc _).heap.size; rw [size_alloc]; exact Nat.lt_succ_self _)⟩
  have n1 : ¬ O = w3.heap.size := by omega
  have n2 : ¬ w3.heap.size = O := by omega
  have t5 : IntKind.i64.wrap (ta + o) = ta + o := IntWalk.i64_in _ (by omega)
  have t6 : IntKind.i64.wrap (ta + o + p) = ta + o + p := IntWalk.i64_in _ (by omega)
  clear HFA3
  have X0D : Hid (w3.drew.cell? ⟨O, 0, none⟩ = some (.slice cn0 nn cn1)) := x0
  have X1D : Hid (w3.drew.cell? ⟨O, 1, none⟩ = some (.slice ca0 na ca1)) := x1
  go_cut [15, 16] (fun u15 u16 wx => ∃ (G : Nat) (a : Option Addr) (c : Nat), u15 = .pointer (some ⟨G, 0, none⟩) ∧ u16 = .int .i64 0 ∧ Hid (ABx wx G (.slice a 0 c) ta) ∧ Hid (Below w3.heap.size w3 wx))
  case first =>
    go_region_held3 (fun w' => w'.cell? ⟨O, 0, none⟩ = some (.slice cn0 nn cn1) ∧ w'.cell? ⟨O, 1, none⟩ = some (.slice ca0 na ca1))
      (first | with_reducible exact ⟨s0, s1⟩ | with_reducible exact ⟨x0, x1⟩ | with_reducible exact ⟨HOD.out.1, HOD.out.2.1⟩ | with_reducible exact ⟨X0D.out, X1D.out⟩ | go_keep | exact ⟨(((((OF.out.oth n1 0 _).oth n1 1 _).oth n1 2 _).oth n1 3 _).oth n1 4 _).1, (((((OF.out.oth n1 0 _).oth n1 1 _).oth n1 2 _).oth n1 3 _).oth n1 4 _).2.1⟩)
      ((first | (go_at_call 19; refine (HPK.out _).mono ?_; rintro e w9 ⟨rfl, rfl⟩) | (go_at_call 20; refine (HT1.out _ _ _ (HFM.out _ (by first | with_reducible exact HRD.out | with_reducible exact HRA.out _))).mono ?_; rintro e w9 ⟨a9, c9, rfl, hb9⟩; (first | ((with_reducible have hh := HNX.out w9 hb9); obtain ⟨oF, hbe⟩ := hh; have OF := Lib.hid oF; have HBE := Lib.hid hbe; obtain ⟨s0, s1, sf, sz⟩ := oF; clear hb9 hbe) | ((with_reducible have hh := HNA.out w9 hb9); obtain ⟨oF, hbe, oG⟩ := hh; have OF := Lib.hid oF; have HBE := Lib.hid hbe; have OG := Lib.hid oG; obtain ⟨s0, s1, sf, sz⟩ := oF; have y0 : w9.cell? ⟨w3.heap.size, 0, none⟩ = some (.int .i64 0) := oG.cell 0; have y1 : w9.cell? ⟨w3.heap.size, 1, none⟩ = some (.bool false) := oG.cell 1; have y2 : w9.cell? ⟨w3.heap.size, 2, none⟩ = some (.string ⟨#[]⟩) := oG.cell 2; have y3 : w9.cell? ⟨w3.heap.size, 3, none⟩ = some (.slice none 0 0) := oG.cell 3; have y4 : w9.cell? ⟨w3.heap.size, 4, none⟩ = some (.int .i64 0) := oG.cell 4; have yf := oG.frozen; have yz := oG.lt; clear hb9 hbe oG)))))
    · go_wp2_with fail
      go_meet
      exact ⟨w9.heap.size, a9, c9, rfl, rfl, ABx.new w9 _ _, HBE.out.alloc HBE.out.size _⟩
    · go_wp2_with fail
      go_meet
      exact ⟨w3.heap.size, a9, c9, rfl, rfl, OG.out.set5 _ _, ((((HBE.out.setCell (p := ⟨w3.heap.size, 0, none⟩) (Nat.le_refl _) _).setCell (p := ⟨w3.heap.size, 1, none⟩) (Nat.le_refl _) _).setCell (p := ⟨w3.heap.size, 2, none⟩) (Nat.le_refl _) _).setCell (p := ⟨w3.heap.size, 3, none⟩) (Nat.le_refl _) _).setCell (p := ⟨w3.heap.size, 4, none⟩) (Nat.le_refl _) _⟩
    · go_wp2_with fail
      go_meet
      exact ⟨w3.heap.size, a9, c9, rfl, rfl, OG.out.set5 _ _, ((((HBE.out.setCell (p := ⟨w3.heap.size, 0, none⟩) (Nat.le_refl _) _).setCell (p := ⟨w3.heap.size, 1, none⟩) (Nat.le_refl _) _).setCell (p := ⟨w3.heap.size, 2, none⟩) (Nat.le_refl _) _).setCell (p := ⟨w3.heap.size, 3, none⟩) (Nat.le_refl _) _).setCell (p := ⟨w3.heap.size, 4, none⟩) (Nat.le_refl _) _⟩
  case rest =>
    obtain ⟨G1, a1, c1, rfl, rfl, HA1, HB3⟩ := hcut
    have HX4 := Lib.hid (HX3.out.next HB3.out)
    have HS4 := Lib.hid (HSP.out.next HB3.out)
    have HW4 := Lib.hid (HW3.out.trans (HB3.out.mono HW3.out.size))
    have HFA4 := Lib.hid (HFM.out _ HB3.out)
    clear HX3 HSP HW3 HFM HOD HOA HRD HRA HNX HNA X0D X1D HT1 t5 t6 n1 n2 x0 x1 x3
    obtain ⟨x0, x1, -, x3⟩ := HX4.out
    go_wp2_with fail
    refine (HT2.out _ _ _ HFA4.out).mono ?_; rintro e w5 ⟨a2, c2, rfl, hb5⟩
    have bb5 : Below wc.heap.size wc (w5.alloc (.cells #[.int .i64 0, .bool false, .string ⟨#[]⟩, .slice a2 0 c2, .int .i64 (-2208988800)] 39)) := hb5.alloc hb5.size _
    have HA2 := Lib.hid (ABx.new w5 (.slice a2 0 c2) (-2208988800))
    have HA1' := Lib.hid (HA1.out.next bb5)
    have HX6 := Lib.hid (HX4.out.next bb5)
    have HS6 := Lib.hid (HS4.out.next bb5)
    have HW6 := Lib.hid (HW4.out.trans (bb5.mono HW4.out.size))
    have HFA6 := Lib.hid (HFA4.out.mono bb5)
    clear hb5 bb5 HA1 HX4 HS4 HW4 HFA4 HT2 x0 x1 x3 HB3
    obtain ⟨x0, x1, -, x3⟩ := HX6.out
    go_wp2_with fail
    generalize w5.alloc (.cells #[.int .i64 0, .bool false, .string ⟨#[]⟩, .slice a2 0 c2, .int .i64 (-2208988800)] 39) = w6 at *
    generalize w5.heap.size = G2 at *
    refine (HT3.out _ _ _ HFA6.out).mono ?_; rintro e w7 ⟨a3, c3, rfl, hb7⟩
    have bb7 : Below w6.heap.size w6 (w7.alloc (.cells #[.int .i64 0, .bool false, .string ⟨#[]⟩, .slice a3 0 c3, .int .i64 4102444800] 39)) := hb7.alloc hb7.size _
    have HA3 := Lib.hid (ABx.new w7 (.slice a3 0 c3) 4102444800)
    have HA1 := Lib.hid (HA1'.out.next bb7)
    have HA2' := Lib.hid (HA2.out.next bb7)
    have HS8 := Lib.hid (HS6.out.next bb7)
    have HW8 := Lib.hid (HW6.out.trans (bb7.mono HW6.out.size))
    clear hb7 bb7 HA1' HA2 HX6 HS6 HW6 HFA6 HT3 x0 x1 x3
    obtain ⟨y0, y1, y2, y3, y4⟩ := HS8.out
    have hS0 : Hid (W.heap.size < w7.heap.size + 1) := Lib.hid (by have := y4; rw [size_alloc] at this; exact this)
    have hsp : IntKind.i64.wrap (o - kk) = o - kk := IntWalk.i64_in _ (by omega)
    clear hsp
    have htw := two_at (w7.alloc (.cells #[.int .i64 0, .bool false, .string ⟨#[]⟩, .slice a3 0 c3, .int .i64 4102444800] 39)) ⟨-2208988800, ⟨o, false, ⟨#[]⟩⟩⟩ ⟨ta, ⟨o - kk, false, ⟨#[]⟩⟩⟩ ⟨i64_of (by show _ ≤ (-2208988800 : Int); omega) (by show (-2208988800 : Int) ≤ _; omega), i64_of (by show _ ≤ o; omega) (by show o ≤ _; omega), Nat.zero_le _⟩ ⟨i64_of (by show _ ≤ ta; omega) (by show ta ≤ _; omega), i64_of (by show _ ≤ o - kk; omega) (by show o - kk ≤ _; omega), Nat.zero_le _⟩ 50
    rw [size_alloc] at htw
    have HC2 := Lib.hid (inverse_ok _ _ _ htw HG2.out)
    have bb9 : Below (w7.alloc (.cells #[.int .i64 0, .bool false, .string ⟨#[]⟩, .slice a3 0 c3, .int .i64 4102444800] 39)).heap.size (w7.alloc (.cells #[.int .i64 0, .bool false, .string ⟨#[]⟩, .slice a3 0 c3, .int .i64 4102444800] 39)) ((w7.alloc (.cells #[.int .i64 0, .bool false, .string ⟨#[]⟩, .slice a3 0 c3, .int .i64 4102444800] 39)).alloc (.cells #[.int .i64 (-2208988800), .int .i64 o, .bool false, .string ⟨#[]⟩, .int .i64 ta, .int .i64 (o - kk), .bool false, .string ⟨#[]⟩] 50)) := (Below.refl _ _).alloc (Nat.le_refl _) _
    clear htw
    go_wp2_with fail
    refine HC2.out.mono ?_; intro e z2 hIR
    obtain ⟨dn0, dn1, da0, da1, rfl, hfb, hb10⟩ := hIR.shape (inv_few (by show 2 ≤ 6; omega))
    have bb10 := bb9.trans (hb10.mono bb9.size)
    have hb11 := bb10.alloc bb10.size (.cells #[.slice dn0 (invF [⟨-2208988800, ⟨o, false, ⟨#[]⟩⟩⟩, ⟨ta, ⟨o - kk, false, ⟨#[]⟩⟩⟩]).nodes.length dn1, .slice da0 (invF [⟨-2208988800, ⟨o, false, ⟨#[]⟩⟩⟩, ⟨ta, ⟨o - kk, false, ⟨#[]⟩⟩⟩]).answers.length da1] 26)
    have ba := (Below.refl z2.heap.size z2).alloc (Nat.le_refl _) (.cells #[.slice dn0 (invF [⟨-2208988800, ⟨o, false, ⟨#[]⟩⟩⟩, ⟨ta, ⟨o - kk, false, ⟨#[]⟩⟩⟩]).nodes.length dn1, .slice da0 (invF [⟨-2208988800, ⟨o, false, ⟨#[]⟩⟩⟩, ⟨ta, ⟨o - kk, false, ⟨#[]⟩⟩⟩]).answers.length da1] 26)
    have HXz := Lib.hid (FBx.new z2 (.slice dn0 (invF [⟨-2208988800, ⟨o, false, ⟨#[]⟩⟩⟩, ⟨ta, ⟨o - kk, false, ⟨#[]⟩⟩⟩]).nodes.length dn1) (.slice da0 (invF [⟨-2208988800, ⟨o, false, ⟨#[]⟩⟩⟩, ⟨ta, ⟨o - kk, false, ⟨#[]⟩⟩⟩]).answers.length da1))
    have HFz := Lib.hid (hfb.mono ba)
    have HB1 := Lib.hid (HA1.out.next hb11)
    have HB2 := Lib.hid (HA2'.out.next hb11)
    have HB3 := Lib.hid (HA3.out.next hb11)
    have HWz := Lib.hid (HW8.out.trans (hb11.mono HW8.out.size))
    clear hIR hfb hb10 bb10 hb11 ba bb9 HC2 HA1 HA2' HA3 HS8 HW8 hS0 y0 y1 y2 y3 y4
    generalize hF2 : invF [⟨-2208988800, ⟨o, false, ⟨#[]⟩⟩⟩, ⟨ta, ⟨o - kk, false, ⟨#[]⟩⟩⟩] = f2 at *
    generalize f2.nodes.length = nn2 at *
    generalize f2.answers.length = na2 at *
    have HT4 : Hid (∀ (vn va : Value) (w : World), FrsAt w vn va f2 → Calls Try.prog 20 #[.agg #[vn, va], .int .i64 (ta + o - 1 - p)] w fun e w' => ∃ a c, e = .returned (.tuple #[.agg #[.int .i64 0, .bool false, .string ⟨#[]⟩, .slice a 2 c, .int .i64 0], .int .i64 0]) ∧ w'.ownsRow w.heap.size 3 1 (.slice a 2 c) 2 ([o, o - kk].flatMap encI) ∧ Below w.heap.size w w') := fun vn va w hf => inv_eval HG2.out (inv_few (by show 2 ≤ 6; omega)) (ta + o - 1 - p) (os := [o, o - kk]) (j := 0) (tell_two _ _ _ (by dsimp only; rw [if_pos (by omega), if_pos (by omega)]; rfl) (by dsimp only; rw [if_neg (by simp)])) vn va w (by rw [hF2]; exact hf)
    clear hF2 HG1 HG2
    go_upto_region 11 with (fail)
    generalize z2.alloc (.cells #[Value.slice dn0 nn2 dn1, Value.slice da0 na2 da1] 26) = z3 at *
    generalize z2.heap.size = O2 at *
    obtain ⟨x0, x1, x2, x3⟩ := HXz.out
    have HFM : Hid (∀ w', Below z3.heap.size z3 w' → FrsAt w' (.slice dn0 nn2 dn1) (.slice da0 na2 da1) f2) := fun w' h => HFz.out.mono h
    have HOD : Hid (FBx z3.drew O2 (.slice dn0 nn2 dn1) (.slice da0 na2 da1)) := HXz.out
    have HOA : Hid (∀ o, FBx ((z3.alloc o).drew) O2 (.slice dn0 nn2 dn1) (.slice da0 na2 da1)) := fun o => HXz.out.below ((Below.refl _ _).alloc (Nat.le_refl _) o).drew HXz.out.2.2.2
    have HRD : Hid (Below z3.heap.size z3 z3.drew) := Lib.hid (Below.refl _ _).drew
    have HRA : Hid (∀ o, Below z3.heap.size z3 ((z3.alloc o).drew)) := fun o => ((Below.refl _ _).alloc (Nat.le_refl _) o).drew
    have HNX : Hid (∀ w9, Below z3.drew.heap.size z3.drew w9 → FBx w9 O2 (.slice dn0 nn2 dn1) (.slice da0 na2 da1) ∧ Below z3.heap.size z3 w9) := fun w9 hb => ⟨HOD.out.below hb HOD.out.2.2.2, HRD.out.trans (hb.mono HRD.out.size)⟩
    have HNA : Hid (∀ w9, Below ((z3.alloc (.cells #[.int .i64 0, .bool false, .string ⟨#[]⟩, .slice none 0 0, .int .i64 0] 39)).drew).heap.size ((z3.alloc (.cells #[.int .i64 0, .bool false, .string ⟨#[]⟩, .slice none 0 0, .int .i64 0] 39)).drew) w9 → FBx w9 O2 (.slice dn0 nn2 dn1) (.slice da0 na2 da1) ∧ Below z3.heap.size z3 w9 ∧ ABx w9 z3.heap.size (.slice none 0 0) 0) := fun w9 hb => ⟨(HOA.out _).below hb (HOA.out _).2.2.2, (HRA.out _).trans (hb.mono (HRA.out _).size), ABx.below (w := (z3.alloc (.cells #[.int .i64 0, .bool false, .string ⟨#[]⟩, .slice none 0 0, .int .i64 0] 39)).drew) (ABx.new z3 (.slice none 0 0) 0) hb (by show z3.heap.size < (z3.alloc _).heap.size; rw [size_alloc]; exact Nat.lt_succ_self _)⟩
    have HOWA : Hid (∀ (w9 : World) (v : Value), w9.ownsRow ((z3.alloc (.cells #[.int .i64 0, .bool false, .string ⟨#[]⟩, .slice none 0 0, .int .i64 0] 39)).drew).heap.size 3 1 v 2 ([o, o - kk].flatMap encI) → w9.ownsRow (z3.heap.size + 1) 3 1 v 2 ([o, o - kk].flatMap encI)) := fun w9 v h => by
      have e : ((z3.alloc (.cells #[.int .i64 0, .bool false, .string ⟨#[]⟩, .slice none 0 0, .int .i64 0] 39)).drew).heap.size = z3.heap.size + 1 := size_alloc _ _
      rw [e] at h
      exact h
    have H64 : Hid (∀ x ∈ [o, o - kk], I64 x) := fun x hx => by
      simp only [List.mem_cons, List.not_mem_nil, or_false] at hx
      rcases hx with rfl | rfl <;> exact i64_of (by omega) (by omega)
    have n1 : ¬ O2 = z3.heap.size := by omega
    have n2 : ¬ z3.heap.size = O2 := by omega
    have t5 : IntKind.i64.wrap (ta + o) = ta + o := IntWalk.i64_in _ (by omega)
    have t6 : IntKind.i64.wrap (ta + o - 1) = ta + o - 1 := IntWalk.i64_in _ (by omega)
    have t7 : IntKind.i64.wrap (ta + o - 1 - p) = ta + o - 1 - p := IntWalk.i64_in _ (by omega)
    clear HFz
    have X0D : Hid (z3.drew.cell? ⟨O2, 0, none⟩ = some (.slice dn0 nn2 dn1)) := x0
    have X1D : Hid (z3.drew.cell? ⟨O2, 1, none⟩ = some (.slice da0 na2 da1)) := x1
    go_cut [23, 24] (fun u15 u16 wx => ∃ (G : Nat) (a : Option Addr) (c : Nat), u15 = .pointer (some ⟨G, 0, none⟩) ∧ u16 = .int .i64 0 ∧ Hid (ABx wx G (.slice a 2 c) 0) ∧ Hid (SlAt wx 1 RInt (.slice a 2 c) [o, o - kk]) ∧ Hid (Below z3.heap.size z3 wx))
    case first =>
      go_region_held3 (fun w' => w'.cell? ⟨O2, 0, none⟩ = some (.slice dn0 nn2 dn1) ∧ w'.cell? ⟨O2, 1, none⟩ = some (.slice da0 na2 da1))
        (first | with_reducible exact ⟨s0, s1⟩ | with_reducible exact ⟨x0, x1⟩ | with_reducible exact ⟨HOD.out.1, HOD.out.2.1⟩ | with_reducible exact ⟨X0D.out, X1D.out⟩ | go_keep | exact ⟨(((((OF.out.oth n1 0 _).oth n1 1 _).oth n1 2 _).oth n1 3 _).oth n1 4 _).1, (((((OF.out.oth n1 0 _).oth n1 1 _).oth n1 2 _).oth n1 3 _).oth n1 4 _).2.1⟩)
        ((first | (go_at_call 19; refine (HPK.out _).mono ?_; rintro e w9 ⟨rfl, rfl⟩) | (go_at_call 20; refine (HT4.out _ _ _ (HFM.out _ (by first | with_reducible exact HRD.out | with_reducible exact HRA.out _))).mono ?_; rintro e w9 ⟨a9, c9, rfl, ho9, hb9⟩; (first | ((with_reducible have hh := HNX.out w9 hb9); obtain ⟨oF, hbe⟩ := hh; have OF := Lib.hid oF; have HBE := Lib.hid hbe; have HO9 := Lib.hid (ints_of_own H64.out ho9); obtain ⟨s0, s1, sf, sz⟩ := oF; clear hb9 ho9 hbe) | ((with_reducible have hh := HNA.out w9 hb9); (with_reducible have hoo := HOWA.out w9 _ ho9); obtain ⟨oF, hbe, oG⟩ := hh; have HOO := Lib.hid hoo; have OF := Lib.hid oF; have HBE := Lib.hid hbe; have OG := Lib.hid oG; obtain ⟨s0, s1, sf, sz⟩ := oF; have y0 : w9.cell? ⟨z3.heap.size, 0, none⟩ = some (.int .i64 0) := oG.cell 0; have y1 : w9.cell? ⟨z3.heap.size, 1, none⟩ = some (.bool false) := oG.cell 1; have y2 : w9.cell? ⟨z3.heap.size, 2, none⟩ = some (.string ⟨#[]⟩) := oG.cell 2; have y3 : w9.cell? ⟨z3.heap.size, 3, none⟩ = some (.slice none 0 0) := oG.cell 3; have y4 : w9.cell? ⟨z3.heap.size, 4, none⟩ = some (.int .i64 0) := oG.cell 4; have yf := oG.frozen; have yz := oG.lt; clear hb9 ho9 hbe oG hoo)))))
      · go_wp2_with fail
        go_meet
        exact ⟨w9.heap.size, a9, c9, rfl, rfl, ABx.new w9 _ _, HO9.out.mono ((Below.refl _ _).alloc (Nat.le_refl _) _) fun _ _ h => h, HBE.out.alloc HBE.out.size _⟩
      · go_wp2_with fail
        go_meet
        exact ⟨z3.heap.size, a9, c9, rfl, rfl, OG.out.set5 _ _, ints_of_own H64.out (ownsRow_setCell_below (ownsRow_setCell_below (ownsRow_setCell_below (ownsRow_setCell_below (ownsRow_setCell_below HOO.out (Nat.lt_succ_self _) _) (Nat.lt_succ_self _) _) (Nat.lt_succ_self _) _) (Nat.lt_succ_self _) _) (Nat.lt_succ_self _) _), ((((HBE.out.setCell (p := ⟨z3.heap.size, 0, none⟩) (Nat.le_refl _) _).setCell (p := ⟨z3.heap.size, 1, none⟩) (Nat.le_refl _) _).setCell (p := ⟨z3.heap.size, 2, none⟩) (Nat.le_refl _) _).setCell (p := ⟨z3.heap.size, 3, none⟩) (Nat.le_refl _) _).setCell (p := ⟨z3.heap.size, 4, none⟩) (Nat.le_refl _) _⟩
      · go_wp2_with fail
        go_meet
        exact ⟨z3.heap.size, a9, c9, rfl, rfl, OG.out.set5 _ _, ints_of_own H64.out (ownsRow_setCell_below (ownsRow_setCell_below (ownsRow_setCell_below (ownsRow_setCell_below (ownsRow_setCell_below HOO.out (Nat.lt_succ_self _) _) (Nat.lt_succ_self _) _) (Nat.lt_succ_self _) _) (Nat.lt_succ_self _) _) (Nat.lt_succ_self _) _), ((((HBE.out.setCell (p := ⟨z3.heap.size, 0, none⟩) (Nat.le_refl _) _).setCell (p := ⟨z3.heap.size, 1, none⟩) (Nat.le_refl _) _).setCell (p := ⟨z3.heap.size, 2, none⟩) (Nat.le_refl _) _).setCell (p := ⟨z3.heap.size, 3, none⟩) (Nat.le_refl _) _).setCell (p := ⟨z3.heap.size, 4, none⟩) (Nat.le_refl _) _⟩
    case rest =>
      obtain ⟨G4, a4, c4, rfl, rfl, HA4, HS4, HBx⟩ := hcut
      have HA1 := Lib.hid (HB1.out.next HBx.out)
      have HA2 := Lib.hid (HB2.out.next HBx.out)
      have HA3 := Lib.hid (HB3.out.next HBx.out)
      have HWx := Lib.hid (HWz.out.trans (HBx.out.mono HWz.out.size))
      have HE2 : Hid (SlAt (wc.alloc (.cells #[.int .i64 o, .int .i64 (o - kk)] 3)) 1 RInt (.slice (some ⟨wc.heap.size, 0, none⟩) 2 2) [o, o - kk]) := by
        refine .inr ⟨wc.heap.size, 0, 2, rfl, by simp, by simp, by unfold maxLen; omega, by rw [size_alloc]; omega, fun i hi => ?_⟩
        match i, hi with
        | 0, _ => exact ⟨[.int .i64 o], rfl, ⟨rfl, H64.out _ (by simp)⟩, fun j hj => by
            obtain rfl : j = 0 := by omega
            exact World.cell?_alloc_at (w := wc) _ _ wc.heap.size 0 rfl⟩
        | 1, _ => exact ⟨[.int .i64 (o - kk)], rfl, ⟨rfl, H64.out _ (by simp)⟩, fun j hj => by
            obtain rfl : j = 0 := by omega
            exact World.cell?_alloc_at (w := wc) _ _ wc.heap.size 1 rfl⟩
      have HEQ := Lib.hid (equal_any _ _ _ _ _ (HS4.out.mono ((Below.refl _ _).alloc (Nat.le_refl _) _) fun _ _ h => h) HE2.out)
      clear HXz HFM HOD HOA HRD HRA HNX HNA X0D X1D HT4 t5 t6 t7 n1 n2 x0 x1 x3 HB1 HB2 HB3 HBx HWz HOWA HPK
      have b1 : wc.cell? ⟨G1, 1 + 1 + 1, none⟩ = some (.slice a1 0 c1) := HA1.out.cell 3
      have b1' : wc.cell? ⟨G1, 3, none⟩ = some (.slice a1 0 c1) := HA1.out.cell 3
      have b2 : wc.cell? ⟨G1, 4, none⟩ = some (.int .i64 ta) := HA1.out.cell 4
      have b3 : wc.cell? ⟨G2, 3, none⟩ = some (.slice a2 0 c2) := HA2.out.cell 3
      have b4 : wc.cell? ⟨G2, 4, none⟩ = some (.int .i64 (-2208988800)) := HA2.out.cell 4
      have b5 : wc.cell? ⟨w7.heap.size, 3, none⟩ = some (.slice a3 0 c3) := HA3.out.cell 3
      have b6 : wc.cell? ⟨w7.heap.size, 4, none⟩ = some (.int .i64 4102444800) := HA3.out.cell 4
      have b7 : wc.cell? ⟨G4, 3, none⟩ = some (.slice a4 2 c4) := HA4.out.cell 3
      clear b1
      go_wp2_with (go_at_call 21; refine HEQ.out.mono ?_; rintro e w9 ⟨r, nq, rfl, hr, rfl⟩; obtain rfl := hr rfl; clear hr)
      go_ret
      exact ⟨rfl, below_draws (HWx.out.alloc HWx.out.size _) nq⟩
end Go.Proofs.Ytlhidbbphngpcaa
