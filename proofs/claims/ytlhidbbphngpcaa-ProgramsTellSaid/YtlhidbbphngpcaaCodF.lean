/-
  What an operator does to the stack; where an instruction may go on.
  code.Verify.
  Where an instruction may go on, by the document; maps of numbers.
  How a program runs that was verified: plain.
-/
import Derived.StillTailTactics
import Derived.Maps.OwnOps
import Derived.Maps.OwnSet
import Derived.Maps.Views
import Derived.Test.YtlhidbbphngpcaaCodA
import Derived.Test.YtlhidbbphngpcaaCodP0
import Derived.Test.YtlhidbbphngpcaaTreeT
namespace Go.Proofs.Ytlhidbbphngpcaa
set_option linter.unusedVariables false
set_option linter.unusedSimpArgs false
open Go.ChangeShapes Go.WideShapes Go.ChangeAt Go.RowKit

theorem effect_any (op : Int) (w : World) (hop : op = 1 ∨ op = 2 ∨ op = 3 ∨ op = 4 ∨ op = 5 ∨ op = 6) :
    Calls Try.prog 60 #[.int .i64 op] w fun e w' => e = .returned (.tuple #[.int .i64 (needI op), .int .i64 (moreI op)]) ∧ w = w' := by
  rcases hop with rfl | rfl | rfl | rfl | rfl | rfl
  all_goals
    go_enter Try.func60, Try.ntmps60
    go_wp2
    go_ret2
    exact ⟨rfl, rfl⟩
theorem lit_one (w : World) (t : Int) : (w.alloc (.cells #[.int .i64 t] 3)).ownsRow w.heap.size 3 1 (.slice (some ⟨w.heap.size, 0, none⟩) 1 1) [t].length ([t].flatMap encI) :=
  World.ownsRow_lit w #[.int .i64 t] 1 (Nat.le_refl _) (by decide) rfl
theorem lit_two (w : World) (t u : Int) : (w.alloc (.cells #[.int .i64 t, .int .i64 u] 3)).ownsRow w.heap.size 3 1 (.slice (some ⟨w.heap.size, 0, none⟩) 2 2) [t, u].length ([t, u].flatMap encI) :=
  World.ownsRow_lit w #[.int .i64 t, .int .i64 u] 2 (Nat.le_refl _) (by decide) rfl
theorem next_64 (i : Nat) (op n : Int) (hi : i ≤ 8000) (hn : 0 ≤ n) (hn8 : n ≤ 8000) : ∀ t ∈ nextI i ⟨op, n⟩, I64 t ∧ t ≤ 16001 := by
  intro t ht
  have h : t = (i : Int) + 1 ∨ t = (i : Int) + 1 + n := by
    unfold nextI at ht
    split at ht
    · simp at ht
    · split at ht
      · exact .inr (by simpa using ht)
      · split at ht
        · simpa using ht
        · exact .inl (by simpa using ht)
  rcases h with rfl | rfl
  · exact ⟨i64_of (by omega) (by omega), by omega⟩
  · exact ⟨i64_of (by omega) (by omega), by omega⟩
theorem next_any (i : Nat) (op n : Int) (w : World) (hi : i ≤ 8000) (hn : 0 ≤ n) (hn8 : n ≤ 8000) (hop : op = 1 ∨ op = 2 ∨ op = 3 ∨ op = 4 ∨ op = 5 ∨ op = 6) :
    Calls Try.prog 61 #[.int .i64 i, .agg #[.int .i64 op, .int .i64 n]] w fun e w' => ∃ v, e = .returned v ∧ w'.ownsRow w.heap.size 3 1 v (nextI i ⟨op, n⟩).length ((nextI i ⟨op, n⟩).flatMap encI) ∧ Below w.heap.size w w' := by
  have hs := size_alloc w (.cells #[.int .i64 op, .int .i64 n] 102)
  have hle : w.heap.size ≤ w.heap.size + 1 := Nat.le_succ _
  have L1 := lit_one (w.alloc (.cells #[.int .i64 op, .int .i64 n] 102)) ((i : Int) + 1)
  have L2 := lit_one (w.alloc (.cells #[.int .i64 op, .int .i64 n] 102)) ((i : Int) + 1 + n)
  have L3 := lit_two (w.alloc (.cells #[.int .i64 op, .int .i64 n] 102)) ((i : Int) + 1) ((i : Int) + 1 + n)
  rw [hs] at L1 L2 L3
  have M1 := Lib.hid (ownsRow_base hle L1)
  have M2 := Lib.hid (ownsRow_base hle L2)
  have M3 := Lib.hid (ownsRow_base hle L3)
  clear hs L1 L2 L3
  have hi' : (i : Int) ≤ 8000 := by omega
  rcases hop with rfl | rfl | rfl | rfl | rfl | rfl
  all_goals
    go_enter Try.func61, Try.ntmps61
    go_wp2
    go_ret
    first
      | exact ⟨_, rfl, M1.out, below_alloc2 (Nat.le_refl _) _ _⟩
      | exact ⟨_, rfl, M2.out, below_alloc2 (Nat.le_refl _) _ _⟩
      | exact ⟨_, rfl, M3.out, below_alloc2 (Nat.le_refl _) _ _⟩
      | exact ⟨_, rfl, World.ownsRow_nil _ _ _ _, (Below.refl _ _).alloc (Nat.le_refl _) _⟩
end Go.Proofs.Ytlhidbbphngpcaa
namespace Go.Proofs.Ytlhidbbphngpcaa
set_option linter.unusedVariables false
set_option linter.unusedSimpArgs false
open Go.ChangeShapes Go.WideShapes Go.ChangeAt Go.RowKit

/-- what Verify answers: steps, stack, error. -/
def verE (p : Prg) : Int × Int × Int :=
  if prgE p ≠ 0 then (0, 0, prgE p) else match scan p.code p.code.length with
    | .inl e => (0, 0, e)
    | .inr st => (gI (sl p.code p.code.length) 0, st.stack, 0)
theorem prg_good {p : Prg} (h : prgE p = 0) : 0 < p.code.length ∧ p.code.length ≤ 8000 ∧ p.pool.length ≤ 2000 ∧ p.answers.length ≤ 2000 ∧ (∀ i (hi : i < p.answers.length), ansE p.answers[i] = 0) ∧ ∀ i (hi : i < p.code.length), insE1 p i p.code[i] = 0 := by
  unfold prgE at h
  by_cases h0 : p.code.length = 0
  · rw [if_pos h0] at h; omega
  · rw [if_neg h0] at h
    by_cases h1 : 8000 < p.code.length ∨ 2000 < p.pool.length ∨ 2000 < p.answers.length
    · rw [if_pos h1] at h; omega
    · rw [if_neg h1] at h
      by_cases h2 : anssE p.answers = 0
      · rw [if_neg (by simpa using h2)] at h
        refine ⟨by omega, by omega, by omega, by omega, fun i hi => ?_, fun i hi => ?_⟩
        · exact ferr_all _ _ _ h2 i hi
        · have := ferr_all _ _ _ h i hi; simpa using this
      · rw [if_pos h2] at h; exact absurd h h2
theorem ins_good {p : Prg} {i : Nat} {x : Ins} (h : insE1 p i x = 0) : (x.op = 1 ∨ x.op = 2 ∨ x.op = 3 ∨ x.op = 4 ∨ x.op = 5 ∨ x.op = 6) ∧ 0 ≤ x.n ∧ x.n ≤ mostI p i x.op := by
  rcases insE1_kind p i x with ⟨_, h'⟩ | ⟨_, _, h'⟩ | ⟨hop, ⟨_, h'⟩ | ⟨_, _, h'⟩ | ⟨q1, q2, _⟩⟩
  · omega
  · omega
  · omega
  · omega
  · exact ⟨hop, q1, q2⟩
theorem ins_n8 {p : Prg} (hg : prgE p = 0) {i : Nat} (hi : i < p.code.length) : (p.code[i].op = 1 ∨ p.code[i].op = 2 ∨ p.code[i].op = 3 ∨ p.code[i].op = 4 ∨ p.code[i].op = 5 ∨ p.code[i].op = 6) ∧ 0 ≤ p.code[i].n ∧ p.code[i].n ≤ 8000 := by
  obtain ⟨g0, g1, g2, g3, g4, g5⟩ := prg_good hg
  obtain ⟨h1, h2, h3⟩ := ins_good (g5 i hi)
  obtain ⟨m1, m3, m2, m6, m4, m5⟩ := most_at p i p.code[i].op
  refine ⟨h1, h2, ?_⟩
  rcases h1 with h | h | h | h | h | h
  · rw [m1 h] at h3; omega
  · rw [m2 h] at h3; omega
  · rw [m3 h] at h3; omega
  · rw [m4 h] at h3; omega
  · rw [m5 h] at h3; omega
  · rw [m6 h] at h3; omega
/-- block D is a row of numbers. -/
def RowI (w : World) (D : Nat) (l : List Int) : Prop := w.ownsRow D 3 1 (.slice (some ⟨D, 0, none⟩) l.length l.length) l.length (l.map (Value.int .i64))
theorem RowI.cell {w : World} {D : Nat} {l : List Int} (h : RowI w D l) (t : Nat) (ht : t < l.length) : w.cell? ⟨D, t, none⟩ = some (.int .i64 (gI l t)) := by
  have := World.ownsRow.cellAt h t (by omega)
  rw [this, List.getElem?_map, List.getElem?_eq_getElem ht]
  unfold gI
  rw [Int.toNat_natCast, List.getD_eq_getElem?_getD, List.getElem?_eq_getElem ht]
  rfl
theorem RowI.frz {w : World} {D : Nat} {l : List Int} (h : RowI w D l) (t : Nat) : w.frozen? ⟨D, t, none⟩ = false := World.ownsRow.frozenAt h t
theorem RowI.set {w : World} {D : Nat} {l : List Int} (h : RowI w D l) (t : Nat) (v : Int) : RowI (w.setCell ⟨D, t, none⟩ (.int .i64 v)) D (l.set t v) := by
  have := (World.ownsRow.stored h t (.int .i64 v)).1
  unfold RowI
  rw [List.length_set, List.map_set]
  exact this
theorem RowI.lt {w : World} {D : Nat} {l : List Int} (h : RowI w D l) : D < w.heap.size := (World.ownsRow.lt h D rfl).2
theorem RowI.keep {w w' : World} {D : Nat} {l : List Int} (h : RowI w D l) (hb : Below w.heap.size w w') : RowI w' D l := ownsRow_below h hb (Nat.le_refl _)
theorem RowI.drew {w : World} {D : Nat} {l : List Int} (h : RowI w D l) : RowI w.drew D l := World.ownsRow.drew h
theorem RowI.made {w : World} {D n : Nat} (h : w.ownsRow D 3 1 (.slice (some ⟨D, 0, none⟩) n n) n (madeCells (Value.int .i64 0).cells (n * 1)).toList) : RowI w D (List.replicate n 0) := by
  unfold RowI
  rw [List.length_replicate, List.map_replicate]
  have e : (madeCells (Value.int .i64 0).cells (n * 1)).toList = List.replicate n (Value.int .i64 0) := by rw [Nat.mul_one]; exact toList_madeCells_one _ _
  rw [e] at h
  exact h
theorem rep_zero (n : Nat) (j : Nat) : gI (List.replicate n 0) j = 0 := by
  unfold gI; rw [Int.toNat_natCast, List.getD_eq_getElem?_getD, List.getElem?_replicate]; split <;> rfl
theorem need_bd (op : Int) : 0 ≤ needI op ∧ needI op ≤ 2 := by unfold needI; split <;> (try split) <;> omega
theorem more_bd (op : Int) : -1 ≤ moreI op ∧ moreI op ≤ 1 := by unfold moreI; split <;> (try split) <;> omega
theorem ver_err {p : Prg} {e : Int} (hg : prgE p = 0) (h : scan p.code p.code.length = .inl e) : verE p = (0, 0, e) := by
  unfold verE; rw [if_neg (by simpa using hg), h]
theorem below_in2 {w w1 w2 : World} (h : Below w.heap.size w w1) (g : Below w1.heap.size w1 w2) : Below w.heap.size w w2 := h.trans (g.mono h.size)
set_option maxRecDepth 100000 in
set_option maxHeartbeats 4000000 in
theorem verify_bad (p : Prg) (vc vp va : Value) (w : World) (hp : PrgAt w vc vp va p) (hb : prgE p ≠ 0) :
    Calls Try.prog 32 #[.agg #[vc, vp, va]] w fun e w' => e = .returned (.tuple #[.int .i64 0, .int .i64 0, .int .i64 (prgE p)]) ∧ Below w.heap.size w w' := by
  have HP := Lib.hid hp
  obtain ⟨r, hr⟩ : ∃ r, r = prgE p := ⟨_, rfl⟩
  have hne : (r != 0) = true := by rw [bne_iff_ne, hr]; exact hb
  rw [← hr]
  have HR := Lib.hid hr
  have bw : Below w.heap.size w (w.alloc (.cells #[vc, vp, va] 68)) := (Below.refl _ _).alloc (Nat.le_refl _) _
  clear hp hb hr
  go_enter Try.func32, Try.ntmps32
  go_wp2_with fail
  refine (ccheck_any p _ _ _ _ (HP.out.mono bw)).mono ?_; rintro e w1 ⟨rfl, hb1⟩
  rw [← HR.out]
  go_wp2
  go_ret3
  exact ⟨rfl, below_in hb1⟩
set_option maxRecDepth 100000 in
set_option maxHeartbeats 8000000 in
theorem verify_good (p : Prg) (vc vp va : Value) (w : World) (hp : PrgAt w vc vp va p) (hg : prgE p = 0) :
    Calls Try.prog 32 #[.agg #[vc, vp, va]] w fun e w' => e = .returned (.tuple #[.int .i64 (verE p).1, .int .i64 (verE p).2.1, .int .i64 (verE p).2.2]) ∧ Below w.heap.size w w' := by
  obtain ⟨g0, g1, g2, g3, g4, g5⟩ := prg_good hg
  obtain ⟨i0, hi, hz0, hz1, hz2⟩ := info_parts info_int
  obtain ⟨ac, cc, hvc, lc⟩ := hp.1.shape
  have HP := Lib.hid hp
  have HG := Lib.hid hg
  have HN := Lib.hid (fun i (hi : i < p.code.length) => ins_n8 hg hi)
  have bw : Below w.heap.size w (w.alloc (.cells #[vc, vp, va] 68)) := (Below.refl _ _).alloc (Nat.le_refl _) _
  have hs := size_alloc w (.cells #[vc, vp, va] 68)
  have b0 : (w.alloc (.cells #[vc, vp, va] 68)).cell? ⟨w.heap.size, 0, none⟩ = some vc := (World.cell?_alloc_at (w := w) _ _ w.heap.size 0 rfl).trans rfl
  have HS := Lib.hid hs
  have hB0 := Lib.hid b0
  have hx0 : (0 : Int) < (p.code.length : Int) := by omega
  have hx1 : (p.code.length : Int) ≤ 8000 := by omega
  have hx2 : 0 < p.code.length := g0
  clear hp hg g0 g1 g2 g3 g4 g5 lc hs b0
  subst hvc
  go_enter Try.func32, Try.ntmps32
  go_wp2_with fail
  refine (ccheck_any p _ _ _ _ (HP.out.mono bw)).mono ?_; rintro e w1 ⟨rfl, hb1⟩
  have hz : w.heap.size < (w.alloc (.cells #[.slice ac p.code.length cc, vp, va] 68)).heap.size := by rw [HS.out]; omega
  have q0 : w1.cell? ⟨w.heap.size, 0, none⟩ = some (.slice ac p.code.length cc) := (hb1.cell (p := ⟨w.heap.size, 0, none⟩) hz).trans hB0.out
  have hw1 := bw.trans (hb1.mono bw.size)
  have hz1' : w.heap.size < w1.heap.size := Nat.lt_of_lt_of_le hz hb1.size
  rw [HG.out]
  have HC := Lib.hid (HP.out.1.mono hw1 fun _ _ h => h)
  clear hb1 HS hB0 bw hz
  go_wp2_with (refine wpList_make_full _ rfl _ _ 34 rfl w1.heap.size 3 i0 (.int .i64 0) 1 Try.underlying34 hi hz0 hz1 .i64 .i64 _ _ p.code.length rfl rfl rfl rfl (by rw [hz2]; omega) (by unfold maxLen; omega) (Nat.le_refl _) ?_; intro w2 hown hgr; have HRW := Lib.hid (RowI.made hown); have c00 : w2.cell? ⟨w1.heap.size, 0, none⟩ = some (.int .i64 0) := (HRW.out.cell 0 (by rw [List.length_replicate]; exact hx2)).trans (by rw [rep_zero]); have f00 : ∀ j, w2.frozen? ⟨w1.heap.size, j, none⟩ = false := HRW.out.frz; have z00 := HRW.out.lt; have hb2 : Below w1.heap.size w1 w2 := (Below.refl _ _).grown hgr (Nat.le_refl _) (fun g hg => by cases hg); have q2 := (hb2.cell (p := ⟨w.heap.size, 0, none⟩) hz1').trans q0; clear hown hgr)
  have HR0 : Hid (RowI (w2.setCell ⟨w1.heap.size, 0, none⟩ (.int .i64 1)) w1.heap.size (v0 p.code.length).dl) := by
    have := HRW.out.set 0 1
    have e : (List.replicate p.code.length (0 : Int)).set 0 1 = (v0 p.code.length).dl := by
      unfold v0
      match hn : p.code.length, hx2 with
      | n + 1, _ => rfl
    rw [e] at this
    exact this
  have hb3 : Below w1.heap.size w1 (w2.setCell ⟨w1.heap.size, 0, none⟩ (.int .i64 1)) := hb2.setCell (Nat.le_refl _) _
  have HI0 : Hid (scan p.code 0 = .inr (v0 p.code.length) ∧ Vinv p.code 0 (v0 p.code.length)) := ⟨rfl, vinv_start p.code hx2⟩
  clear HRW c00 f00 z00 hb2 q2
  generalize w2.setCell ⟨w1.heap.size, 0, none⟩ (.int .i64 1) = W3 at *
  go_loopw [8, 35] (fun s i wr => ∃ (k : Nat) (st : Vst), k ≤ p.code.length ∧ i = .int .i64 k ∧ s = .int .i64 st.stack ∧ Hid (scan p.code k = .inr st ∧ Vinv p.code k st) ∧ Hid (RowI wr w1.heap.size st.dl) ∧ Below w1.heap.size w1 wr) (fun _ i _ => (p.code.length - intOf i).toNat)
  case atStart => exact ⟨0, _, by omega, rfl, rfl, HI0, HR0, hb3⟩
  case round =>
    obtain ⟨k, st, hk, rfl, rfl, hsc, hrow, hbr⟩ := hrel
    have q3 := (hbr.cell (p := ⟨w.heap.size, 0, none⟩) hz1').trans q0
    have hzr : w.heap.size < wr.heap.size := by have := hbr.size; omega
    have hD := hrow.out.lt
    by_cases hlt : k < p.code.length
    · obtain ⟨b, off, rfl, hbb, ⟨c0, c1⟩, _, _⟩ := elemIns HC.out k hlt
      have d0 := (hbr.cell (p := ⟨b, off + k * 2, none⟩) hbb).trans c0
      have d1 := (hbr.cell (p := ⟨b, off + k * 2 + 1, none⟩) hbb).trans c1
      obtain ⟨hop, hn0, hn8⟩ := HN.out k hlt
      have HIV := hsc.out.2
      have hdlen := HIV.dlen
      have rk := hrow.out.cell k (by rw [hdlen]; exact hlt)
      have hstep : Hid (∀ st', vstep p.code.length k p.code[k] st = .inr st' → scan p.code (k + 1) = .inr st' ∧ Vinv p.code (k + 1) st') := fun st' h => ⟨scan_ok hlt hsc.out.1 h, vinv_step HIV hlt (fun x hx => by
        obtain ⟨i, hi, rfl⟩ := List.mem_iff_getElem.1 hx
        exact (HN.out i hi).2.1) h⟩
      have herr : Hid (∀ e, vstep p.code.length k p.code[k] st = .inl e → verE p = (0, 0, e)) := fun e h => ver_err HG.out (scan_err hlt hsc.out.1 h)
      have hdp := HIV.dpos k
      have hdl := HIV.dle k
      have hs8 := HIV.s8
      have hs0 := HIV.s0
      have HDL := Lib.hid hdlen
      have HOP := Lib.hid hop
      clear c0 c1 HIV hdlen hsc hop
      generalize p.code[k] = x at *
      obtain ⟨op, n⟩ := x
      dsimp only at d0 d1 hn0 hn8
      have HST := hstep
      have HER := herr
      clear hstep herr
      obtain ⟨dk, hdk⟩ : ∃ d, d = gI st.dl k := ⟨_, rfl⟩
      rw [← hdk] at rk hdp hdl
      have HDK := Lib.hid hdk
      clear hdk
      by_cases h0 : dk = 0
      · have hb : (dk == 0) = true := by rw [beq_iff_eq]; exact h0
        have H1 : Hid (scan p.code (k + 1) = .inr st ∧ Vinv p.code (k + 1) st) := HST.out st (by unfold vstep; rw [if_pos (by rw [← HDK.out]; exact h0)])
        have HR1 : Hid (RowI (wr.alloc (.cells #[.int .i64 op, .int .i64 n] 102)) w1.heap.size st.dl) := hrow.out.keep ((Below.refl _ _).alloc (Nat.le_refl _) _)
        have hbr1 := hbr.alloc hbr.size (.cells #[.int .i64 op, .int .i64 n] 102)
        clear h0
        go_wp2
        go_roundw
        case rel => exact ⟨k + 1, st, by omega, by go_num, rfl, H1, HR1, hbr1⟩
        case measure => simp [intOf]; omega
      · have hb : (dk == 0) = false := by rw [beq_eq_false_iff_ne]; exact h0
        obtain ⟨hnb0, hnb2⟩ := need_bd op
        obtain ⟨hmb0, hmb1⟩ := more_bd op
        have HNE : Hid (gI st.dl k ≠ 0) := by rw [← HDK.out]; exact h0
        by_cases hlim : dk - 1 < needI op ∨ 8 < dk - 1 + moreI op
        · have HE : Hid (verE p = (0, 0, 10)) := HER.out 10 (by unfold vstep; rw [if_neg HNE.out, if_pos (by rw [← HDK.out]; exact hlim)])
          have hbr1 := hbr.alloc hbr.size (.cells #[.int .i64 op, .int .i64 n] 102)
          have hl2 : dk - 1 < needI op ∨ (needI op ≤ dk - 1 ∧ 8 < dk - 1 + moreI op) := by omega
          have hdk9 : dk ≤ 9 := by omega
          clear hlim h0
          rcases hl2 with hl | ⟨hl, hl'⟩
          all_goals
            go_wp2_with (go_at_call 60; refine (effect_any op _ HOP.out).mono ?_; rintro e w' ⟨rfl, rfl⟩)
            go_ret3
            exact ⟨by rw [HE.out]; rfl, below_in2 (hw1) hbr1⟩
        · have hl1 : needI op ≤ dk - 1 := by omega
          have hl2 : dk - 1 + moreI op ≤ 8 := by omega
          have hdk9 : dk ≤ 9 := by omega
          have ha0 : 0 ≤ dk - 1 + moreI op := by
            have : needI op + moreI op ≥ 0 := by
              rcases HOP.out with rfl | rfl | rfl | rfl | rfl | rfl <;> decide
            omega
          clear hlim h0
          have hml : st.stack < dk - 1 + moreI op ∨ dk - 1 + moreI op ≤ st.stack := by omega
          obtain ⟨sm, hsm⟩ : ∃ sm, sm = mx st.stack (dk - 1 + moreI op) := ⟨_, rfl⟩
          have HSM := Lib.hid hsm
          have hba := hbr.alloc hbr.size (.cells #[.int .i64 op, .int .i64 n] 102)
          have hrowa : RowI (wr.alloc (.cells #[.int .i64 op, .int .i64 n] 102)) w1.heap.size st.dl := hrow.out.keep ((Below.refl _ _).alloc (Nat.le_refl _) _)
          have hgt5 := Lib.hid (nextI_gt (i := k) (x := ⟨op, n⟩) hn0)
          clear hsm
          rcases hml with hml | hml
          all_goals
            go_wp2_with (first | (go_at_call 60; refine (effect_any op _ HOP.out).mono ?_; rintro e w' ⟨rfl, rfl⟩) | fail)
            refine (next_any k op n _ (by omega) hn0 hn8 HOP.out).mono ?_; rintro e w5 ⟨vt, rfl, hvt, hb5⟩
            obtain ⟨at', ct, rfl⟩ := own_shape hvt
            have hDa : w1.heap.size < (wr.alloc (.cells #[.int .i64 op, .int .i64 n] 102)).heap.size := hrowa.lt
            obtain ⟨Bn, hBn⟩ : ∃ B, B = (wr.alloc (.cells #[.int .i64 op, .int .i64 n] 102)).heap.size := ⟨_, rfl⟩
            rw [← hBn] at hvt hDa
            have hrow5 := Lib.hid (hrowa.keep hb5)
            have hbr5 := hba.trans (hb5.mono hba.size)
            have h64 := next_64 k op n (by omega) hn0 hn8
            obtain ⟨ts, hts⟩ : ∃ ts, ts = nextI k ⟨op, n⟩ := ⟨_, rfl⟩
            rw [← hts] at hvt hgt5 h64 ⊢
            have HTS := Lib.hid hts
            have HVT := Lib.hid hvt
            have H64 := Lib.hid h64
            have htl : ts.length ≤ 2 := by rw [hts]; unfold nextI; split <;> (try split) <;> (try split) <;> simp
            have hzz : w.heap.size < w1.heap.size := hz1'
            clear hvt hts hb5 hba hrowa hBn h64
            obtain ⟨stA, hstA⟩ : ∃ stA : Vst, stA = ⟨st.dl, st.ll, mx st.stack (dk - 1 + moreI op), mx st.steps (gI st.ll k)⟩ := ⟨_, rfl⟩
            have HVG : Hid (vstep p.code.length k ⟨op, n⟩ st = vgo p.code.length (dk - 1 + moreI op) (gI st.ll k) stA ts) := by
              show vstep _ _ _ _ = _
              unfold vstep
              rw [if_neg HNE.out, if_neg (show ¬ (gI st.dl k - 1 < needI op ∨ 8 < gI st.dl k - 1 + moreI op) by rw [← HDK.out]; omega), ← HDK.out, hstA, HTS.out]
            have HDA : Hid (stA.dl = st.dl ∧ stA.stack = mx st.stack (dk - 1 + moreI op)) := by rw [hstA]; exact ⟨rfl, rfl⟩
            clear hstA
            go_wp2
            obtain ⟨wo, rfl⟩ : ∃ wo : World, wo = wr := ⟨_, rfl⟩
            go_loopw [75] (fun i wr => ∃ (j : Nat) (s2 : Vst), j ≤ ts.length ∧ i = .int .i64 j ∧ Hid (vgo p.code.length (dk - 1 + moreI op) (gI st.ll k) stA ts = vgo p.code.length (dk - 1 + moreI op) (gI st.ll k) s2 (ts.drop j)) ∧ Hid (s2.dl.length = p.code.length ∧ s2.stack = stA.stack) ∧ Hid (RowI wr w1.heap.size s2.dl) ∧ Hid (wr.ownsRow Bn 3 1 (.slice at' ts.length ct) ts.length (ts.flatMap encI)) ∧ Below w1.heap.size w1 wr) (fun i _ => (ts.length - intOf i).toNat)
            case atStart => exact ⟨0, stA, by omega, rfl, Lib.hid rfl, ⟨by rw [HDA.out.1]; exact HDL.out, rfl⟩, (by show RowI _ _ stA.dl; rw [HDA.out.1]; exact hrow5.out), HVT, hbr5⟩
            case round =>
              obtain ⟨j, s2, hj, rfl, hvg, hsl, hrw, hvr, hbq⟩ := hrel
              have hDq := hrw.out.lt
              by_cases hjl : j < ts.length
              · obtain ⟨b5, o5, rfl, hb5b, e0, _⟩ := elemInt (ints_of_own (fun x hx => (H64.out x hx).1) hvr.out) j hjl
                have hdj := Lib.hid (List.drop_eq_getElem_cons hjl)
                have ht16 := (H64.out _ (List.getElem_mem hjl)).2
                have htg := hgt5.out _ (List.getElem_mem hjl)
                generalize ts[j] = t at *
                obtain ⟨u, rfl⟩ : ∃ u : Nat, t = u := ⟨t.toNat, by omega⟩
                have hunf : Hid (vgo p.code.length (dk - 1 + moreI op) (gI st.ll k) s2 (ts.drop j) = if (p.code.length : Int) ≤ u then .inl 5 else if gI s2.dl u ≠ 0 ∧ gI s2.dl u ≠ dk - 1 + moreI op + 1 then .inl 4 else vgo p.code.length (dk - 1 + moreI op) (gI st.ll k) (vone s2 (dk - 1 + moreI op) (gI st.ll k) u) (ts.drop (j + 1))) := by
                  show vgo _ _ _ _ _ = _
                  rw [hdj.out]
                  rfl
                by_cases hun : (p.code.length : Int) ≤ u
                · have HE : Hid (verE p = (0, 0, 5)) := HER.out 5 (by rw [HVG.out, hvg.out, hunf.out, if_pos hun])
                  go_wp2
                  go_ret3
                  exact ⟨by rw [HE.out]; rfl, hw1.trans (hbq.mono (Nat.le_of_lt hzz))⟩
                · have hul : u < p.code.length := by omega
                  have rc := hrw.out.cell u (by rw [hsl.out.1]; exact hul)
                  have rf := hrw.out.frz u
                  have hu2 : (u : Int) < (p.code.length : Int) := by omega
                  obtain ⟨g, hgq⟩ : ∃ g, g = gI s2.dl u := ⟨_, rfl⟩
                  rw [← hgq] at rc
                  have HGQ := Lib.hid hgq
                  clear hgq
                  by_cases hbadg : g ≠ 0 ∧ g ≠ dk - 1 + moreI op + 1
                  · have HE : Hid (verE p = (0, 0, 4)) := HER.out 4 (by rw [HVG.out, hvg.out, hunf.out, if_neg hun, if_pos (by rw [← HGQ.out]; exact hbadg)])
                    have t1 : (g != 0) = true := bne_iff_ne.2 hbadg.1
                    have t2 : (g != dk - 1 + moreI op + 1) = true := bne_iff_ne.2 hbadg.2
                    clear hun hbadg
                    go_wp2
                    go_ret3
                    exact ⟨by rw [HE.out]; rfl, hw1.trans (hbq.mono (Nat.le_of_lt hzz))⟩
                  · have hgo : Hid (vgo p.code.length (dk - 1 + moreI op) (gI st.ll k) stA ts = vgo p.code.length (dk - 1 + moreI op) (gI st.ll k) (vone s2 (dk - 1 + moreI op) (gI st.ll k) u) (ts.drop (j + 1))) := by
                      show _ = _
                      rw [hvg.out, hunf.out, if_neg hun, if_neg (by rw [← HGQ.out]; exact hbadg)]
                    have hS1 : Hid ((vone s2 (dk - 1 + moreI op) (gI st.ll k) u).dl.length = p.code.length ∧ (vone s2 (dk - 1 + moreI op) (gI st.ll k) u).stack = stA.stack) := ⟨by show (s2.dl.set _ _).length = _; rw [List.length_set]; exact hsl.out.1, hsl.out.2⟩
                    have hR1 : Hid (RowI (wr.setCell ⟨w1.heap.size, u, none⟩ (.int .i64 (dk - 1 + moreI op + 1))) w1.heap.size (vone s2 (dk - 1 + moreI op) (gI st.ll k) u).dl) := hrw.out.set u _
                    have hV1 := Lib.hid (ownsRow_setCell_below hvr.out (a := ⟨w1.heap.size, u, none⟩) hDa (.int .i64 (dk - 1 + moreI op + 1)))
                    have hbq1 := hbq.setCell (p := ⟨w1.heap.size, u, none⟩) (Nat.le_refl _) (.int .i64 (dk - 1 + moreI op + 1))
                    have hgg : g = 0 ∨ (g ≠ 0 ∧ g = dk - 1 + moreI op + 1) := by omega
                    clear hun hbadg
                    rcases hgg with hgg | ⟨hg0, hgg⟩
                    · have t1 : (g != 0) = false := by rw [bne_eq_false_iff_eq]; exact hgg
                      clear hgg
                      go_wp2
                      go_roundw
                      case rel => exact ⟨j + 1, _, by omega, by go_num, hgo, hS1, hR1, hV1, hbq1⟩
                      case measure => simp [intOf]; omega
                    · have t1 : (g != 0) = true := bne_iff_ne.2 hg0
                      have t2 : (g != dk - 1 + moreI op + 1) = false := by rw [bne_eq_false_iff_eq]; exact hgg
                      clear hgg hg0
                      go_wp2
                      go_roundw
                      case rel => exact ⟨j + 1, _, by omega, by go_num, hgo, hS1, hR1, hV1, hbq1⟩
                      case measure => simp [intOf]; omega
              · have hfin : Hid (scan p.code (k + 1) = .inr s2 ∧ Vinv p.code (k + 1) s2) := HST.out s2 (by
                  rw [HVG.out, hvg.out, List.drop_eq_nil_of_le (by omega)]
                  rfl)
                have hstk : Hid (s2.stack = mx st.stack (dk - 1 + moreI op)) := by show _ = _; rw [hsl.out.2, HDA.out.2]
                go_wp2
                go_roundw
                case rel => exact ⟨k + 1, s2, by omega, by go_num, by rw [hstk.out]; unfold mx; first | rw [if_pos hml] | rw [if_neg (by omega)], hfin, hrw, hbq⟩
                case measure => simp [intOf]; omega
    · have hkn : k = p.code.length := by omega
      have HFI : Hid (scan p.code p.code.length = .inr st) := by have := hsc.out.1; rw [hkn] at this; exact this
      have HVE : Hid (verE p = (gI (sl p.code p.code.length) 0, st.stack, 0)) := by
        show _ = _
        unfold verE
        rw [if_neg (by simpa using HG.out), HFI.out]
      have hbr0 := hw1.trans (hbr.mono (Nat.le_of_lt hz1'))
      have HCr := Lib.hid (HC.out.mono hbr fun _ _ h => h)
      have HBR := Lib.hid hbr
      clear hkn hsc hrow hbr
      go_wp2_with (refine wpList_make_full _ rfl _ _ 34 rfl wr.heap.size 3 i0 (.int .i64 0) 1 Try.underlying34 hi (by assumption) hz1 .i64 .i64 _ _ p.code.length rfl rfl rfl rfl (by rw [hz2]; omega) (by unfold maxLen; omega) (Nat.le_refl _) ?_; intro w4 hown hgr)
      have HRW := Lib.hid (RowI.made hown)
      have hb4 : Below wr.heap.size wr w4 := (Below.refl _ _).grown hgr (Nat.le_refl _) (fun g hg => by cases hg)
      have q4 := (hb4.cell (p := ⟨w.heap.size, 0, none⟩) hzr).trans q3
      have hbr4 := hbr0.trans (hb4.mono hbr0.size)
      have hzr4 : w.heap.size < w4.heap.size := Nat.lt_of_lt_of_le hzr hb4.size
      have HB14 := Lib.hid (HBR.out.trans (hb4.mono HBR.out.size))
      have hw1D : w1.heap.size ≤ wr.heap.size := HBR.out.size
      obtain ⟨D, hDD⟩ : ∃ D, D = wr.heap.size := ⟨_, rfl⟩
      rw [← hDD] at HRW hzr hw1D ⊢
      clear hown hgr hb4 hbr0 HCr HBR hD hDD q3
      have hRS : Hid (RowI w4 D (sl p.code 0)) := HRW.out
      obtain ⟨wo, rfl⟩ : ∃ wo : World, wo = wr := ⟨_, rfl⟩
      go_loopw [17] (fun i wr => ∃ (m : Nat) (I : Int), m ≤ p.code.length ∧ i = .int .i64 I ∧ Hid (I = (p.code.length : Int) - 1 - m) ∧ Hid (RowI wr D (sl p.code m)) ∧ Below D w4 wr) (fun i _ => (intOf i + 1).toNat)
      case atStart => exact ⟨0, _, by omega, rfl, (by show _ = _; omega), hRS, Below.refl _ _⟩
      case round =>
        obtain ⟨m, I, hm, rfl, hI, hrw, hbq⟩ := hrel
        have hDq := hrw.out.lt
        have q5 := (hbq.cell (p := ⟨w.heap.size, 0, none⟩) hzr).trans q4
        by_cases hmn : m < p.code.length
        · obtain ⟨ix, hix⟩ : ∃ ix : Nat, ix = p.code.length - 1 - m := ⟨_, rfl⟩
          obtain rfl : I = (ix : Int) := by have := hI.out; omega
          have hixl : ix < p.code.length := by omega
          have hixm : ix + m < p.code.length := by omega
          obtain ⟨b, off, rfl, hbb, ⟨c0, c1⟩, _, _⟩ := elemIns HC.out ix hixl
          have hB1 : Below w1.heap.size w1 wr := HB14.out.trans (hbq.mono hw1D)
          have d0 := (hB1.cell (p := ⟨b, off + ix * 2, none⟩) hbb).trans c0
          have d1 := (hB1.cell (p := ⟨b, off + ix * 2 + 1, none⟩) hbb).trans c1
          obtain ⟨hop, hn0, hn8⟩ := HN.out ix hixl
          have hcx := List.getElem?_eq_getElem hixl
          generalize p.code[ix] = x at *
          obtain ⟨op, n⟩ := x
          dsimp only at d0 d1 hn0 hn8
          have HOP := Lib.hid hop
          have HCX := Lib.hid hcx
          have HIX := Lib.hid hix
          have h64 := next_64 ix op n (by omega) hn0 hn8
          have hgt5 := nextI_gt (i := ix) (x := ⟨op, n⟩) hn0
          have HSELF := Lib.hid (sl_self p.code m ix hixm)
          have hsb := Lib.hid (sl_bd p.code m)
          have hSL := Lib.hid (sl_len p.code m)
          clear hop hcx hix c0 c1 hI hB1
          go_wp2_with fail
          refine (next_any ix op n _ (by omega) hn0 hn8 HOP.out).mono ?_; rintro e w5 ⟨vt, rfl, hvt, hb5⟩
          obtain ⟨at', ct, rfl⟩ := own_shape hvt
          obtain ⟨Bn, hBn⟩ : ∃ B, B = wr.heap.size := ⟨_, rfl⟩
          rw [← hBn] at hvt
          have hDB : D < Bn := by omega
          have hrow5 := Lib.hid (hrw.out.keep hb5)
          have hbq5 := hbq.trans (hb5.mono (Nat.le_of_lt hDq))
          obtain ⟨ts, hts⟩ : ∃ ts, ts = nextI ix ⟨op, n⟩ := ⟨_, rfl⟩
          rw [← hts] at hvt hgt5 h64 ⊢
          have htl : ts.length ≤ 2 := by rw [hts]; unfold nextI; split <;> (try split) <;> (try split) <;> simp
          have HTS := Lib.hid hts
          have HVT := Lib.hid hvt
          have H64 := Lib.hid h64
          have HGT := Lib.hid hgt5
          have hR5 : Hid (RowI w5 D ((sl p.code m).set ix 0)) := by rw [HSELF.out]; exact hrow5.out
          clear hvt hts hb5 hrow5 hBn h64 hgt5 hbq q5
          go_wp2
          obtain ⟨wo, rfl⟩ : ∃ wo : World, wo = wr := ⟨_, rfl⟩
          go_loopw [123] (fun i wr => ∃ (j : Nat) (mj : Int), j ≤ ts.length ∧ i = .int .i64 j ∧ Hid (best (sl p.code m) p.code.length ts 0 = best (sl p.code m) p.code.length (ts.drop j) mj) ∧ 0 ≤ mj ∧ mj ≤ m ∧ Hid (RowI wr D ((sl p.code m).set ix mj)) ∧ Hid (wr.ownsRow Bn 3 1 (.slice at' ts.length ct) ts.length (ts.flatMap encI)) ∧ Below D w4 wr) (fun i _ => (ts.length - intOf i).toNat)
          case atStart => exact ⟨0, 0, by omega, rfl, Lib.hid rfl, by omega, by omega, hR5, HVT, hbq5⟩
          case round =>
            obtain ⟨j, mj, hj, rfl, hbs, hmj0, hmjm, hrw2, hvr, hbq2⟩ := hrel
            have hDq2 := hrw2.out.lt
            by_cases hjl : j < ts.length
            · obtain ⟨b5, o5, rfl, hb5b, e0, _⟩ := elemInt (ints_of_own (fun x hx => (H64.out x hx).1) hvr.out) j hjl
              have hdj := Lib.hid (List.drop_eq_getElem_cons hjl)
              have ht16 := (H64.out _ (List.getElem_mem hjl)).2
              have htg := HGT.out _ (List.getElem_mem hjl)
              generalize ts[j] = t at *
              obtain ⟨u, rfl⟩ : ∃ u : Nat, t = u := ⟨t.toNat, by omega⟩
              by_cases hun : (u : Int) < (p.code.length : Int)
              · have hnx : Hid (best (sl p.code m) p.code.length ts 0 = best (sl p.code m) p.code.length (ts.drop (j + 1)) (mx mj (gI (sl p.code m) u))) := by
                  show _ = _
                  rw [hbs.out, hdj.out, best_cons, if_pos hun]
                have hlen2 : ((sl p.code m).set ix mj).length = p.code.length := by rw [List.length_set]; exact hSL.out
                have ri := (hrw2.out.cell ix (by rw [hlen2]; exact hixl)).trans (by rw [show gI ((sl p.code m).set ix mj) ix = mj from by unfold gI; rw [Int.toNat_natCast, getD_set_, if_pos ⟨rfl, by rw [hSL.out]; exact hixl⟩]])
                have ru := (hrw2.out.cell u (by rw [hlen2]; omega)).trans (by rw [show gI ((sl p.code m).set ix mj) u = gI (sl p.code m) u from by unfold gI; rw [Int.toNat_natCast, getD_set_, if_neg (fun h => by have := h.1; omega)]])
                have rf := hrw2.out.frz ix
                obtain ⟨gu, hgu⟩ : ∃ g, g = gI (sl p.code m) u := ⟨_, rfl⟩
                rw [← hgu] at ru
                have hgb : 0 ≤ gu ∧ gu ≤ m := by rw [hgu]; exact hsb.out u
                have HGU := Lib.hid hgu
                have hR6 : ∀ v, Hid (RowI (wr.setCell ⟨D, ix, none⟩ (.int .i64 v)) D ((sl p.code m).set ix v)) := fun v => by
                  have := hrw2.out.set ix v
                  rw [List.set_set] at this
                  exact this
                have hV6 : ∀ v, Hid ((wr.setCell ⟨D, ix, none⟩ (.int .i64 v)).ownsRow Bn 3 1 (.slice (some ⟨b5, o5, none⟩) ts.length ct) ts.length (ts.flatMap encI)) := fun v => ownsRow_setCell_below hvr.out (a := ⟨D, ix, none⟩) hDB _
                have hB6 : ∀ v, Below D w4 (wr.setCell ⟨D, ix, none⟩ (.int .i64 v)) := fun v => hbq2.setCell (p := ⟨D, ix, none⟩) (Nat.le_refl _) _
                have HR6 := Lib.hid hR6
                have HV6 := Lib.hid hV6
                have HB6 := Lib.hid hB6
                have hii : (ix : Int) < (p.code.length : Int) := by omega
                clear hgu hlen2 hR6 hV6 hB6
                rcases (show mj < gu ∨ gu ≤ mj by omega) with hc | hc
                · have hn2 : Hid (best (sl p.code m) p.code.length ts 0 = best (sl p.code m) p.code.length (ts.drop (j + 1)) gu) := by
                    have := hnx.out
                    rw [← HGU.out] at this
                    unfold mx at this
                    rw [if_pos hc] at this
                    exact this
                  go_wp2
                  go_still_tail 12, (by kernel_rfl)
                  change wpList _ _ _ _ _ wr.drew
                  go_wp2
                  go_roundw
                  case rel => exact ⟨j + 1, gu, by omega, by go_num, hn2, by omega, by omega, (HR6.out gu).out.drew, (HV6.out gu).out.drew, (HB6.out gu).drew⟩
                  case measure => simp [intOf]; omega
                · have hn2 : Hid (best (sl p.code m) p.code.length ts 0 = best (sl p.code m) p.code.length (ts.drop (j + 1)) mj) := by
                    have := hnx.out
                    rw [← HGU.out] at this
                    unfold mx at this
                    rw [if_neg (by omega)] at this
                    exact this
                  go_wp2
                  go_still_tail 12, (by kernel_rfl)
                  change wpList _ _ _ _ _ wr.drew
                  go_wp2
                  go_roundw
                  case rel => exact ⟨j + 1, mj, by omega, by go_num, hn2, by omega, by omega, (HR6.out mj).out.drew, (HV6.out mj).out.drew, (HB6.out mj).drew⟩
                  case measure => simp [intOf]; omega
              · have hnx : Hid (best (sl p.code m) p.code.length ts 0 = best (sl p.code m) p.code.length (ts.drop (j + 1)) mj) := by
                  show _ = _
                  rw [hbs.out, hdj.out, best_cons, if_neg hun]
                go_wp2
                go_roundw
                case rel => exact ⟨j + 1, mj, by omega, by go_num, hnx, hmj0, hmjm, hrw2, hvr, hbq2⟩
                case measure => simp [intOf]; omega
            · have hfin : best (sl p.code m) p.code.length (nextI ix ⟨op, n⟩) 0 = mj := by
                rw [← HTS.out, hbs.out, List.drop_eq_nil_of_le (by omega), best_nil]
              have hR7 : Hid (RowI (wr.setCell ⟨D, ix, none⟩ (.int .i64 (mj + 1))) D (sl p.code (m + 1))) := by
                have := hrw2.out.set ix (mj + 1)
                rw [List.set_set] at this
                have e := sl_done p.code m hmn ⟨op, n⟩ (by rw [← HIX.out]; exact HCX.out) mj (by rw [← HIX.out]; exact hfin)
                rw [← HIX.out] at e
                rw [e] at this
                exact this
              have ri := (hrw2.out.cell ix (by rw [List.length_set, hSL.out]; exact hixl)).trans (by rw [show gI ((sl p.code m).set ix mj) ix = mj from by unfold gI; rw [Int.toNat_natCast, getD_set_, if_pos ⟨rfl, by rw [hSL.out]; exact hixl⟩]])
              have rf := hrw2.out.frz ix
              have hB7 := hbq2.setCell (p := ⟨D, ix, none⟩) (Nat.le_refl _) (.int .i64 (mj + 1))
              have hI7 : Hid ((ix : Int) - 1 = (p.code.length : Int) - 1 - ((m + 1 : Nat) : Int)) := by show _ = _; have := HIX.out; omega
              have hii : (ix : Int) < (p.code.length : Int) := by omega
              clear hfin
              go_wp2
              go_roundw
              case rel => exact ⟨m + 1, _, by omega, rfl, hI7, hR7, hB7⟩
              case measure => simp [intOf]
        · have hIn : I < 0 := by have := hI.out; omega
          have hmq : m = p.code.length := by omega
          have hR2 : Hid (RowI wr D (sl p.code p.code.length)) := by have := hrw.out; rw [hmq] at this; exact this
          have r0 := hR2.out.cell 0 (by rw [sl_len]; exact hx2)
          have hbE := hbr4.trans (hbq.mono (Nat.le_of_lt hzr))
          have HVE2 := HVE
          clear hI hmq hrw
          go_wp2
          go_ret3
          exact ⟨by rw [HVE2.out]; rfl, hbE⟩
end Go.Proofs.Ytlhidbbphngpcaa
namespace Go.Proofs.Ytlhidbbphngpcaa
set_option linter.unusedVariables false
set_option linter.unusedSimpArgs false
open Go.ChangeShapes Go.WideShapes Go.ChangeAt Go.RowKit

/-- a map literal's entry. -/
theorem wpList_insert_own {H : Type} {P : Program} (w : World) {ops : Array Oper} {rest : List Oper} {o : Oper} {a : Act} {Q : Exit → Act → World → Prop}
    (hg : o.guard = none) (m x v : Operand) (t : TypeId) (hop : o.op = Op.insert t m x v)
    (k e : TypeId) (K : Maps.Keyed P k) (ht : P.underlying t = some (.map k e)) (R : Value → Option (DataW H × List MemPlace)) (b n : Nat) (D : DataW H)
    (hm : a.eval m = .map (some b)) (hown : w.ownsMap P k R b n D) (hn : n < maxLen) (key val : Value) (kl : Lit) (hx : a.eval x = key) (hv : a.eval v = val) (hkey : keyOf P k key = some kl)
    (d : DataW H) (ps : List MemPlace) (hval : R val = some (d, ps))
    (hK : ∀ w', w'.ownsMap P k R b (n + 1) (D.put kl d) → w.grownBy w' (some b) → wpList P ops Q rest (a.put o.dst undef) w') :
    wpList P ops Q (o :: rest) a w := by
  refine wpList_plain hg fun K' hK' => ?_
  obtain ⟨w', hrun, r1, r2⟩ := hown.update K ht hn hkey hval
  unfold Oper.wp
  simp [execOp, hop, hm, hx, hv, hrun, Result.andThen]
  exact hK' _ _ (hK w' r1 r2)
theorem key_int (t : Int) (h : I64 t) : keyOf Try.prog 3 (.int .i64 t) = some (.int .i64 t) := by
  unfold keyOf mapKey
  simp only [Try.underlying3]
  have h' : (Lit.int .i64 t).wf = true := h
  simp [h']
def kI (t : Int) : Lit := .int .i64 t
def dI (t : Int) : DataW Unit := .lit (.int .i64 t)
/-- the map of depths. -/
def OnM (D : DataW Unit) (dl : List Int) : Prop := Maps.IsMap D ∧ ∀ t : Nat, t < dl.length → Maps.has D (kI t) = decide (gI dl t ≠ 0) ∧ (gI dl t ≠ 0 → D.atKey (kI t) (dI 0) = dI (gI dl t - 1))
def LoM (D : DataW Unit) (ll : List Int) : Prop := Maps.IsMap D ∧ ∀ t : Nat, t < ll.length → D.atKey (kI t) (dI 0) = dI (gI ll t)
theorem kI_key (t : Int) : WideAt.IsKeyLit (kI t) := trivial
theorem kI_ne {t u : Nat} (h : t ≠ u) : kI t ≠ kI u := by
  intro e
  unfold kI at e
  simp at e
  omega
theorem OnM.put {D : DataW Unit} {dl : List Int} (h : OnM D dl) (u : Nat) (a : Int) (ha : a + 1 ≠ 0) (hl : u < dl.length) : OnM (D.put (kI u) (dI a)) (dl.set u (a + 1)) := by
  refine ⟨h.1.put _ _, fun t ht => ?_⟩
  have hg := gI_set dl u (by omega) (by omega) (a + 1) t
  rw [Int.toNat_natCast] at hg
  rw [hg]
  by_cases e : t = u
  · subst e
    rw [if_pos rfl]
    refine ⟨by rw [Maps.has_put_same h.1 (kI_key _)]; simp [ha], fun _ => ?_⟩
    rw [Maps.atKey_put_same h.1 (kI_key _)]
    rw [show a + 1 - 1 = a from by omega]
  · rw [if_neg (fun e' => e (by omega))]
    obtain ⟨h1, h2⟩ := h.2 t (by rw [List.length_set] at ht; exact ht)
    refine ⟨by rw [Maps.has_put_other (kI_ne e)]; exact h1, fun hne => ?_⟩
    rw [Maps.atKey_put_other (kI_ne e)]
    exact h2 hne
theorem LoM.put {D : DataW Unit} {ll : List Int} (h : LoM D ll) (u : Nat) (a : Int) (hl : u < ll.length) : LoM (D.put (kI u) (dI a)) (ll.set u a) := by
  refine ⟨h.1.put _ _, fun t ht => ?_⟩
  have hg := gI_set ll u (by omega) (by omega) a t
  rw [Int.toNat_natCast] at hg
  rw [hg]
  by_cases e : t = u
  · subst e
    rw [if_pos rfl, Maps.atKey_put_same h.1 (kI_key _)]
  · rw [if_neg (fun e' => e (by omega)), Maps.atKey_put_other (kI_ne e)]
    exact h.2 t (by rw [List.length_set] at ht; exact ht)
end Go.Proofs.Ytlhidbbphngpcaa
namespace Go.Proofs.Ytlhidbbphngpcaa
set_option linter.unusedVariables false
set_option linter.unusedSimpArgs false
open Go.ChangeShapes Go.WideShapes Go.ChangeAt Go.RowKit

/-- what is on the stack once stays: a place that is marked keeps its mark. -/
theorem vgo_keep {n a lg : Int} : ∀ {ts : List Int} {st st' : Vst}, vgo n a lg st ts = .inr st' → (∀ t ∈ ts, 0 ≤ t) → (st.dl.length : Int) = n → a + 1 ≠ 0 → ∀ j : Nat, gI st.dl j ≠ 0 → gI st'.dl j = gI st.dl j
  | [], st, st', h, _, _, _ => by
    unfold vgo at h
    obtain rfl := Sum.inr.inj h
    exact fun _ _ => rfl
  | t :: ts, st, st', h, h0, hd, ha => by
    unfold vgo at h
    split at h
    · cases h
    · rename_i c1
      split at h
      · cases h
      · rename_i c2
        have ht := h0 t List.mem_cons_self
        have ih := vgo_keep h (fun u hu => h0 u (List.mem_cons_of_mem _ hu)) (by show ((st.dl.set _ _).length : Int) = n; rw [List.length_set]; exact hd) ha
        have ed : ∀ j : Nat, gI (vone st a lg t).dl j = if t = j then a + 1 else gI st.dl j := fun j => gI_set _ _ ht (by omega) _ _
        intro j hj
        have h1 : gI (vone st a lg t).dl j = gI st.dl j := by
          rw [ed]
          by_cases e : t = j
          · rw [if_pos e]
            rw [e] at c2
            by_cases e2 : gI st.dl j = a + 1
            · exact e2.symm
            · exact absurd ⟨hj, e2⟩ c2
          · rw [if_neg e]
        rw [ih j (by rw [h1]; exact hj), h1]
/-- each marked place leads on to places that are marked. -/
def Leads (c : List Ins) (k : Nat) (dl : List Int) : Prop :=
  ∀ i : Nat, i < k → ∀ hi : i < c.length, gI dl i ≠ 0 → needI c[i].op ≤ gI dl i - 1 ∧ gI dl i - 1 + moreI c[i].op ≤ 8 ∧ ∀ t ∈ nextI i c[i], t < c.length ∧ gI dl t = gI dl i - 1 + moreI c[i].op + 1
theorem leads_step {c : List Ins} {k : Nat} {st st' : Vst} (hv : Vinv c k st) (h : Leads c k st.dl) (hk : k < c.length) (hn : ∀ x ∈ c, 0 ≤ x.n) (hs : vstep c.length k c[k] st = .inr st') : Leads c (k + 1) st'.dl := by
  unfold vstep at hs
  split at hs
  · rename_i h0
    obtain rfl := Sum.inr.inj hs
    intro i hi hil hne
    by_cases e : i = k
    · subst e; exact absurd h0 hne
    · exact h i (by omega) hil hne
  · rename_i h0
    split at hs
    · cases hs
    · rename_i hlim
      have hx := hn _ (List.getElem_mem hk)
      have hgt := nextI_gt (i := k) hx
      have hp : ∀ t ∈ nextI k c[k], 0 ≤ t := fun t ht => by have := hgt t ht; omega
      have ha : gI st.dl k - 1 + moreI c[k].op + 1 ≠ 0 := by
        have h1 : ¬ gI st.dl k - 1 < needI c[k].op := fun e => hlim (.inl e)
        have h2 := hv.dpos k
        unfold needI at h1
        unfold moreI
        split at h1 <;> split <;> (try split at h1) <;> (try split) <;> omega
      have hkeep := vgo_keep hs hp (by show ((st.dl.length : Nat) : Int) = _; rw [hv.dlen]) ha
      obtain ⟨_, _, _, _, g5, g6, g7, _, _⟩ := vgo_spec hs hp (by show ((st.dl.length : Nat) : Int) = _; rw [hv.dlen]) (by show ((st.ll.length : Nat) : Int) = _; rw [hv.llen])
      dsimp only at hkeep g5
      have hsame : ∀ i : Nat, i ≤ k → gI st'.dl i = gI st.dl i := fun i hi => g5 i (fun hm => by have := hgt _ hm; omega)
      intro i hi hil hne
      have hne' : gI st.dl i ≠ 0 := by rw [← hsame i (by omega)]; exact hne
      rw [hsame i (by omega)]
      by_cases e : i = k
      · subst e
        refine ⟨by omega, by omega, fun t ht => ⟨g6 t ht, ?_⟩⟩
        have h3 := hgt t ht
        obtain ⟨u, rfl⟩ : ∃ u : Nat, t = u := ⟨t.toNat, by omega⟩
        exact (g7 u ht).1
      · obtain ⟨q1, q2, q3⟩ := h i (by omega) hil hne'
        refine ⟨q1, q2, fun t ht => ?_⟩
        obtain ⟨r1, r2⟩ := q3 t ht
        refine ⟨r1, ?_⟩
        have h3 := nextI_gt (i := i) (hn _ (List.getElem_mem hil)) t ht
        obtain ⟨u, rfl⟩ : ∃ u : Nat, t = u := ⟨t.toNat, by omega⟩
        rw [hkeep u ?_, r2]
        rw [r2]
        have h1 := hv.dpos i
        have hneed : needI c[i].op ≤ gI st.dl i - 1 := q1
        unfold needI at hneed
        unfold moreI
        split at hneed <;> split <;> (try split at hneed) <;> (try split) <;> omega
theorem scan_all {c : List Ins} (hc : 0 < c.length) (hn : ∀ x ∈ c, 0 ≤ x.n) : ∀ (k : Nat) (st : Vst), k ≤ c.length → scan c k = .inr st → Vinv c k st ∧ Leads c k st.dl ∧ gI st.dl 0 = 1 := by
  intro k
  induction k with
  | zero =>
    intro st _ h
    obtain rfl := Sum.inr.inj h
    refine ⟨vinv_start c hc, fun i hi => by omega, ?_⟩
    exact (gI_one (c.length - 1) 0).trans (if_pos rfl)
  | succ k ih =>
    intro st hk h
    have hk' : k < c.length := by omega
    unfold scan at h
    rw [List.getElem?_eq_getElem hk'] at h
    dsimp only at h
    match hs : scan c k, h with
    | .inl e, h => exact absurd h (by simp [vnext])
    | .inr s0, h =>
      obtain ⟨i1, i2, i3⟩ := ih s0 (by omega) hs
      have h' : vstep c.length k c[k] s0 = .inr st := h
      refine ⟨vinv_step i1 hk' hn h', leads_step i1 i2 hk' hn h', ?_⟩
      have hgt := nextI_gt (i := k) (hn _ (List.getElem_mem hk'))
      unfold vstep at h'
      split at h'
      · obtain rfl := Sum.inr.inj h'; exact i3
      · split at h'
        · cases h'
        · obtain ⟨_, _, _, _, g5, _, _, _, _⟩ := vgo_spec h' (fun t ht => by have := hgt t ht; omega) (by show ((s0.dl.length : Nat) : Int) = _; rw [i1.dlen]) (by show ((s0.ll.length : Nat) : Int) = _; rw [i1.llen])
          rw [show (0 : Int) = ((0 : Nat) : Int) from rfl, g5 0 (fun hm => by have := hgt _ hm; omega)]
          exact i3
/-- a run: from place i, with l on the stack (its top last) and s steps done, it ends at answer a with k steps. -/
inductive Rn (p : Prg) (t : Int) : Nat → List Int → Int → Nat → Int → Prop
  | tell {i : Nat} {l : List Int} {s : Int} {a : Nat} (hi : i < p.code.length) (ho : p.code[i].op = 6) (hn : p.code[i].n = a) (ha : a < p.answers.length) (h8 : l.length ≤ 8) (hs : 0 ≤ s ∧ s ≤ i) : Rn p t i l s a (s + 1)
  | arg {i : Nat} {l : List Int} {s : Int} {a : Nat} {k : Int} (hi : i < p.code.length) (ho : p.code[i].op = 1) (h8 : l.length ≤ 8) (hs : 0 ≤ s ∧ s ≤ i) (h : Rn p t (i + 1) (l ++ [t]) (s + 1) a k) : Rn p t i l s a k
  | push {i : Nat} {l : List Int} {s : Int} {a : Nat} {k : Int} {m : Nat} (hi : i < p.code.length) (ho : p.code[i].op = 2) (hn : p.code[i].n = m) (hm : m < p.pool.length) (h8 : l.length ≤ 8) (hs : 0 ≤ s ∧ s ≤ i) (h : Rn p t (i + 1) (l ++ [p.pool[m]]) (s + 1) a k) : Rn p t i l s a k
  | less {i : Nat} {l : List Int} {s : Int} {a : Nat} {k : Int} {x y : Int} (hi : i < p.code.length) (ho : p.code[i].op = 3) (h8 : (l ++ [x, y]).length ≤ 8) (hs : 0 ≤ s ∧ s ≤ i) (h : Rn p t (i + 1) (l ++ [if x < y then 1 else 0]) (s + 1) a k) : Rn p t i (l ++ [x, y]) s a k
  | skip {i : Nat} {l : List Int} {s : Int} {a : Nat} {k : Int} {v : Int} {m : Nat} (hi : i < p.code.length) (ho : p.code[i].op = 4) (hn : p.code[i].n = m) (h8 : (l ++ [v]).length ≤ 8) (hs : 0 ≤ s ∧ s ≤ i) (h : Rn p t (if v = 0 then i + 1 + m else i + 1) l (s + 1) a k) : Rn p t i (l ++ [v]) s a k
  | go {i : Nat} {l : List Int} {s : Int} {a : Nat} {k : Int} {m : Nat} (hi : i < p.code.length) (ho : p.code[i].op = 5) (hn : p.code[i].n = m) (h8 : l.length ≤ 8) (hs : 0 ≤ s ∧ s ≤ i) (h : Rn p t (i + 1 + m) l (s + 1) a k) : Rn p t i l s a k
theorem last_two (l : List Int) (h : 2 ≤ l.length) : ∃ l' x y, l = l' ++ [x, y] := by
  refine ⟨l.take (l.length - 2), l[l.length - 2], l[l.length - 1], ?_⟩
  have h1 := List.take_append_drop (l.length - 2) l
  have h2 : l.drop (l.length - 2) = [l[l.length - 2], l[l.length - 1]] := by
    rw [List.drop_eq_getElem_cons (by omega), List.drop_eq_getElem_cons (by omega), List.drop_eq_nil_of_le (by omega)]
    congr 2
    congr 1
    omega
  rw [h2] at h1
  exact h1.symm
theorem last_one (l : List Int) (h : 1 ≤ l.length) : ∃ l' x, l = l' ++ [x] := by
  refine ⟨l.take (l.length - 1), l[l.length - 1], ?_⟩
  have h1 := List.take_append_drop (l.length - 1) l
  rw [List.drop_eq_getElem_cons (by omega), List.drop_eq_nil_of_le (by omega)] at h1
  exact h1.symm
theorem run_ex (p : Prg) (t : Int) (hg : prgE p = 0) {st : Vst} (hs : scan p.code p.code.length = .inr st) : ∀ (d i : Nat) (l : List Int) (s : Int), p.code.length - i = d → i < p.code.length → gI st.dl i = l.length + 1 → 0 ≤ s → s ≤ i → ∃ a k, Rn p t i l s a k ∧ a < p.answers.length ∧ 0 ≤ k ∧ k ≤ p.code.length := by
  obtain ⟨g0, g1, g2, g3, g4, g5⟩ := prg_good hg
  have hn : ∀ x ∈ p.code, 0 ≤ x.n := fun x hx => by
    obtain ⟨i, hi, rfl⟩ := List.mem_iff_getElem.1 hx
    exact (ins_n8 hg hi).2.1
  obtain ⟨i1, i2, i3⟩ := scan_all g0 hn _ _ (Nat.le_refl _) hs
  intro d
  induction d using Nat.strongRecOn with
  | _ d ih =>
    intro i l s hd hi hl h0 hsi
    obtain ⟨q1, q2, q3⟩ := i2 i hi hi (by omega)
    have hdl := i1.dle i
    have hs8 := i1.s8
    have h8 : l.length ≤ 8 := by omega
    have hgt := nextI_gt (i := i) (hn _ (List.getElem_mem hi))
    obtain ⟨hop, n0, n8⟩ := ins_n8 hg hi
    obtain ⟨_, _, hmost⟩ := ins_good (g5 i hi)
    obtain ⟨m1, m3, m2, m6, m4, m5⟩ := most_at p i p.code[i].op
    obtain ⟨m, hm⟩ : ∃ m : Nat, p.code[i].n = m := ⟨p.code[i].n.toNat, by omega⟩
    rcases hop with ho | ho | ho | ho | ho | ho
    · have hnx : nextI i p.code[i] = [(i : Int) + 1] := by unfold nextI; simp [ho]
      have hmo : moreI p.code[i].op = 1 := by rw [ho]; rfl
      rw [hnx, hmo] at q3
      obtain ⟨r1, r2⟩ := q3 _ List.mem_cons_self
      obtain ⟨a, k, h1, h2, h3⟩ := ih _ (by omega) (i + 1) (l ++ [t]) (s + 1) rfl (by omega) (by rw [List.length_append]; simp; simp at r2; omega) (by omega) (by omega)
      exact ⟨a, k, .arg hi ho h8 ⟨h0, hsi⟩ h1, h2, h3⟩
    · have hnx : nextI i p.code[i] = [(i : Int) + 1] := by unfold nextI; simp [ho]
      have hmo : moreI p.code[i].op = 1 := by rw [ho]; rfl
      rw [hnx, hmo] at q3
      obtain ⟨r1, r2⟩ := q3 _ List.mem_cons_self
      have hml : m < p.pool.length := by rw [m2 ho] at hmost; omega
      obtain ⟨a, k, h1, h2, h3⟩ := ih _ (by omega) (i + 1) (l ++ [p.pool[m]]) (s + 1) rfl (by omega) (by rw [List.length_append]; simp; simp at r2; omega) (by omega) (by omega)
      exact ⟨a, k, .push hi ho hm hml h8 ⟨h0, hsi⟩ h1, h2, h3⟩
    · have hnx : nextI i p.code[i] = [(i : Int) + 1] := by unfold nextI; simp [ho]
      have hmo : moreI p.code[i].op = -1 := by rw [ho]; rfl
      have hne : needI p.code[i].op = 2 := by rw [ho]; rfl
      rw [hnx, hmo] at q3
      rw [hne] at q1
      obtain ⟨r1, r2⟩ := q3 _ List.mem_cons_self
      obtain ⟨l', x, y, rfl⟩ := last_two l (by omega)
      rw [List.length_append] at hl
      simp at hl r2
      obtain ⟨a, k, h1, h2, h3⟩ := ih _ (by omega) (i + 1) (l' ++ [if x < y then 1 else 0]) (s + 1) rfl (by omega) (by rw [List.length_append]; simp; omega) (by omega) (by omega)
      exact ⟨a, k, .less hi ho h8 ⟨h0, hsi⟩ h1, h2, h3⟩
    · have hnx : nextI i p.code[i] = [(i : Int) + 1, (i : Int) + 1 + p.code[i].n] := by unfold nextI; simp [ho]
      have hmo : moreI p.code[i].op = -1 := by rw [ho]; rfl
      have hne : needI p.code[i].op = 1 := by rw [ho]; rfl
      rw [hnx, hmo] at q3
      rw [hne] at q1
      obtain ⟨r1, r2⟩ := q3 _ List.mem_cons_self
      obtain ⟨r3, r4⟩ := q3 _ (List.mem_cons_of_mem _ List.mem_cons_self)
      rw [hm] at r3 r4
      obtain ⟨l', v, rfl⟩ := last_one l (by omega)
      rw [List.length_append] at hl
      simp at hl r2
      obtain ⟨a, k, h1, h2, h3⟩ := ih (p.code.length - (if v = 0 then i + 1 + m else i + 1)) (by split <;> omega) (if v = 0 then i + 1 + m else i + 1) l' (s + 1) rfl (by split <;> omega) (by
        split
        · rw [show ((i + 1 + m : Nat) : Int) = (i : Int) + 1 + m from by omega, r4]; omega
        · rw [show ((i + 1 : Nat) : Int) = (i : Int) + 1 from by omega, r2]; omega) (by omega) (by split <;> omega)
      exact ⟨a, k, .skip hi ho hm h8 ⟨h0, hsi⟩ h1, h2, h3⟩
    · have hnx : nextI i p.code[i] = [(i : Int) + 1 + p.code[i].n] := by unfold nextI; simp [ho]
      have hmo : moreI p.code[i].op = 0 := by rw [ho]; rfl
      rw [hnx, hmo] at q3
      obtain ⟨r1, r2⟩ := q3 _ List.mem_cons_self
      rw [hm] at r1 r2
      obtain ⟨a, k, h1, h2, h3⟩ := ih (p.code.length - (i + 1 + m)) (by omega) (i + 1 + m) l (s + 1) rfl (by omega) (by rw [show ((i + 1 + m : Nat) : Int) = (i : Int) + 1 + m from by omega, r2]; omega) (by omega) (by omega)
      exact ⟨a, k, .go hi ho hm h8 ⟨h0, hsi⟩ h1, h2, h3⟩
    · have hml : m < p.answers.length := by rw [m6 ho] at hmost; omega
      exact ⟨m, s + 1, .tell hi ho hm hml h8 ⟨h0, hsi⟩, hml, by omega, by omega⟩
end Go.Proofs.Ytlhidbbphngpcaa
