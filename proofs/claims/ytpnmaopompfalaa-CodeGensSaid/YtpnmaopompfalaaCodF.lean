/-
  code.Verify.
-/
import Derived.Test.YtpnmaopompfalaaCodE
import Derived.StillTailTactics
namespace Go.Proofs.Ytpnmaopompfalaa
set_option linter.unusedVariables false
set_option linter.unusedSimpArgs false
open Go.ChangeShapes Go.WideShapes Go.ChangeAt Go.RowKit

/-- what Verify answers: steps, stack, error. -/
def verE (p : Prg) : Int × Int × Int :=
  if prgE p ≠ 0 then (0, 0, prgE p) else match scan p.code p.code.length with
    | .inl e => (0, 0, e)
    | .inr st => (gI (sl p.code p.code.length) 0, st.stack, 0)
theorem prg_good {p : Prg} (h : prgE p = 0) : 0 < p.code.length ∧ p.code.length ≤ 8000 ∧ p.pool.length ≤ 2000 ∧ p.answers.length ≤ 2000 ∧ (∀ i (hi : i < p.answers.length), ansE p.answers[i] = 0) ∧ ∀ i (hi : i < p.code.length), insE1 p i p.code[i] = 0 := by
  unfold prgE at h
  by_cases h0 : p.code.length = 0
  · rw [if_pos h0] at h; omega
  · rw [if_neg h0] at h
    by_cases h1 : 8000 < p.code.length ∨ 2000 < p.pool.length ∨ 2000 < p.answers.length
    · rw [if_pos h1] at h; omega
    · rw [if_neg h1] at h
      by_cases h2 : anssE p.answers = 0
      · rw [if_neg (by simpa using h2)] at h
        refine ⟨by omega, by omega, by omega, by omega, fun i hi => ?_, fun i hi => ?_⟩
        · exact ferr_all _ _ _ h2 i hi
        · have := ferr_all _ _ _ h i hi; simpa using this
      · rw [if_pos h2] at h; exact absurd h h2
theorem ins_good {p : Prg} {i : Nat} {x : Ins} (h : insE1 p i x = 0) : (x.op = 1 ∨ x.op = 2 ∨ x.op = 3 ∨ x.op = 4 ∨ x.op = 5 ∨ x.op = 6) ∧ 0 ≤ x.n ∧ x.n ≤ mostI p i x.op := by
  rcases insE1_kind p i x with ⟨_, h'⟩ | ⟨_, _, h'⟩ | ⟨hop, ⟨_, h'⟩ | ⟨_, _, h'⟩ | ⟨q1, q2, _⟩⟩
  · omega
  · omega
  · omega
  · omega
  · exact ⟨hop, q1, q2⟩
theorem ins_n8 {p : Prg} (hg : prgE p = 0) {i : Nat} (hi : i < p.code.length) : (p.code[i].op = 1 ∨ p.code[i].op = 2 ∨ p.code[i].op = 3 ∨ p.code[i].op = 4 ∨ p.code[i].op = 5 ∨ p.code[i].op = 6) ∧ 0 ≤ p.code[i].n ∧ p.code[i].n ≤ 8000 := by
  obtain ⟨g0, g1, g2, g3, g4, g5⟩ := prg_good hg
  obtain ⟨h1, h2, h3⟩ := ins_good (g5 i hi)
  obtain ⟨m1, m3, m2, m6, m4, m5⟩ := most_at p i p.code[i].op
  refine ⟨h1, h2, ?_⟩
  rcases h1 with h | h | h | h | h | h
  · rw [m1 h] at h3; omega
  · rw [m2 h] at h3; omega
  · rw [m3 h] at h3; omega
  · rw [m4 h] at h3; omega
  · rw [m5 h] at h3; omega
  · rw [m6 h] at h3; omega
/-- block D is a row of numbers. -/
def RowI (w : World) (D : Nat) (l : List Int) : Prop := w.ownsRow D 3 1 (.slice (some ⟨D, 0, none⟩) l.length l.length) l.length (l.map (Value.int .i64))
theorem RowI.cell {w : World} {D : Nat} {l : List Int} (h : RowI w D l) (t : Nat) (ht : t < l.length) : w.cell? ⟨D, t, none⟩ = some (.int .i64 (gI l t)) := by
  have := World.ownsRow.cellAt h t (by omega)
  rw [this, List.getElem?_map, List.getElem?_eq_getElem ht]
  unfold gI
  rw [Int.toNat_natCast, List.getD_eq_getElem?_getD, List.getElem?_eq_getElem ht]
  rfl
theorem RowI.frz {w : World} {D : Nat} {l : List Int} (h : RowI w D l) (t : Nat) : w.frozen? ⟨D, t, none⟩ = false := World.ownsRow.frozenAt h t
theorem RowI.set {w : World} {D : Nat} {l : List Int} (h : RowI w D l) (t : Nat) (v : Int) : RowI (w.setCell ⟨D, t, none⟩ (.int .i64 v)) D (l.set t v) := by
  have := (World.ownsRow.stored h t (.int .i64 v)).1
  unfold RowI
  rw [List.length_set, List.map_set]
  exact this
theorem RowI.lt {w : World} {D : Nat} {l : List Int} (h : RowI w D l) : D < w.heap.size := (World.ownsRow.lt h D rfl).2
theorem RowI.keep {w w' : World} {D : Nat} {l : List Int} (h : RowI w D l) (hb : Below w.heap.size w w') : RowI w' D l := ownsRow_below h hb (Nat.le_refl _)
theorem RowI.drew {w : World} {D : Nat} {l : List Int} (h : RowI w D l) : RowI w.drew D l := World.ownsRow.drew h
theorem RowI.made {w : World} {D n : Nat} (h : w.ownsRow D 3 1 (.slice (some ⟨D, 0, none⟩) n n) n (madeCells (Value.int .i64 0).cells (n * 1)).toList) : RowI w D (List.replicate n 0) := by
  unfold RowI
  rw [List.length_replicate, List.map_replicate]
  have e : (madeCells (Value.int .i64 0).cells (n * 1)).toList = List.replicate n (Value.int .i64 0) := by rw [Nat.mul_one]; exact toList_madeCells_one _ _
  rw [e] at h
  exact h
theorem rep_zero (n : Nat) (j : Nat) : gI (List.replicate n 0) j = 0 := by
  unfold gI; rw [Int.toNat_natCast, List.getD_eq_getElem?_getD, List.getElem?_replicate]; split <;> rfl
theorem need_bd (op : Int) : 0 ≤ needI op ∧ needI op ≤ 2 := by unfold needI; split <;> (try split) <;> omega
theorem more_bd (op : Int) : -1 ≤ moreI op ∧ moreI op ≤ 1 := by unfold moreI; split <;> (try split) <;> omega
theorem ver_err {p : Prg} {e : Int} (hg : prgE p = 0) (h : scan p.code p.code.length = .inl e) : verE p = (0, 0, e) := by
  unfold verE; rw [if_neg (by simpa using hg), h]
theorem below_in2 {w w1 w2 : World} (h : Below w.heap.size w w1) (g : Below w1.heap.size w1 w2) : Below w.heap.size w w2 := h.trans (g.mono h.size)
set_option maxRecDepth 100000 in
set_option maxHeartbeats 4000000 in
theorem verify_bad (p : Prg) (vc vp va : Value) (w : World) (hp : PrgAt w vc vp va p) (hb : prgE p ≠ 0) :
    Calls Try.prog 41 #[.agg #[vc, vp, va]] w fun e w' => e = .returned (.tuple #[.int .i64 0, .int .i64 0, .int .i64 (prgE p)]) ∧ Below w.heap.size w w' := by
  have HP := Lib.hid hp
  obtain ⟨r, hr⟩ : ∃ r, r = prgE p := ⟨_, rfl⟩
  have hne : (r != 0) = true := by rw [bne_iff_ne, hr]; exact hb
  rw [← hr]
  have HR := Lib.hid hr
  have bw : Below w.heap.size w (w.alloc (.cells #[vc, vp, va] 58)) := (Below.refl _ _).alloc (Nat.le_refl _) _
  clear hp hb hr
  go_enter Try.func41, Try.ntmps41
  go_wp2_with fail
  refine (ccheck_any p _ _ _ _ (HP.out.mono bw)).mono ?_; rintro e w1 ⟨rfl, hb1⟩
  rw [← HR.out]
  go_wp2
  go_ret3
  exact ⟨rfl, below_in hb1⟩
set_option maxRecDepth 100000 in
set_option maxHeartbeats 8000000 in
theorem verify_good (p : Prg) (vc vp va : Value) (w : World) (hp : PrgAt w vc vp va p) (hg : prgE p = 0) :
    Calls Try.prog 41 #[.agg #[vc, vp, va]] w fun e w' => e = .returned (.tuple #[.int .i64 (verE p).1, .int .i64 (verE p).2.1, .int .i64 (verE p).2.2]) ∧ Below w.heap.size w w' := by
  obtain ⟨g0, g1, g2, g3, g4, g5⟩ := prg_good hg
  obtain ⟨i0, hi, hz0, hz1, hz2⟩ := info_parts info_int
  obtain ⟨ac, cc, hvc, lc⟩ := hp.1.shape
  have HP := Lib.hid hp
  have HG := Lib.hid hg
  have HN := Lib.hid (fun i (hi : i < p.code.length) => ins_n8 hg hi)
  have bw : Below w.heap.size w (w.alloc (.cells #[vc, vp, va] 58)) := (Below.refl _ _).alloc (Nat.le_refl _) _
  have hs := size_alloc w (.cells #[vc, vp, va] 58)
  have b0 : (w.alloc (.cells #[vc, vp, va] 58)).cell? ⟨w.heap.size, 0, none⟩ = some vc := (World.cell?_alloc_at (w := w) _ _ w.heap.size 0 rfl).trans rfl
  have HS := Lib.hid hs
  have hB0 := Lib.hid b0
  have hx0 : (0 : Int) < (p.code.length : Int) := by omega
  have hx1 : (p.code.length : Int) ≤ 8000 := by omega
  have hx2 : 0 < p.code.length := g0
  clear hp hg g0 g1 g2 g3 g4 g5 lc hs b0
  subst hvc
  go_enter Try.func41, Try.ntmps41
  go_wp2_with fail
  refine (ccheck_any p _ _ _ _ (HP.out.mono bw)).mono ?_; rintro e w1 ⟨rfl, hb1⟩
  have hz : w.heap.size < (w.alloc (.cells #[.slice ac p.code.length cc, vp, va] 58)).heap.size := by rw [HS.out]; omega
  have q0 : w1.cell? ⟨w.heap.size, 0, none⟩ = some (.slice ac p.code.length cc) := (hb1.cell (p := ⟨w.heap.size, 0, none⟩) hz).trans hB0.out
  have hw1 := bw.trans (hb1.mono bw.size)
  have hz1' : w.heap.size < w1.heap.size := Nat.lt_of_lt_of_le hz hb1.size
  rw [HG.out]
  have HC := Lib.hid (HP.out.1.mono hw1 fun _ _ h => h)
  clear hb1 HS hB0 bw hz
  go_wp2_with (refine wpList_make_full _ rfl _ _ 25 rfl w1.heap.size 3 i0 (.int .i64 0) 1 Try.underlying25 hi hz0 hz1 .i64 .i64 _ _ p.code.length rfl rfl rfl rfl (by rw [hz2]; omega) (by unfold maxLen; omega) (Nat.le_refl _) ?_; intro w2 hown hgr; have HRW := Lib.hid (RowI.made hown); have c00 : w2.cell? ⟨w1.heap.size, 0, none⟩ = some (.int .i64 0) := (HRW.out.cell 0 (by rw [List.length_replicate]; exact hx2)).trans (by rw [rep_zero]); have f00 : ∀ j, w2.frozen? ⟨w1.heap.size, j, none⟩ = false := HRW.out.frz; have z00 := HRW.out.lt; have hb2 : Below w1.heap.size w1 w2 := (Below.refl _ _).grown hgr (Nat.le_refl _) (fun g hg => by cases hg); have q2 := (hb2.cell (p := ⟨w.heap.size, 0, none⟩) hz1').trans q0; clear hown hgr)
  have HR0 : Hid (RowI (w2.setCell ⟨w1.heap.size, 0, none⟩ (.int .i64 1)) w1.heap.size (v0 p.code.length).dl) := by
    have := HRW.out.set 0 1
    have e : (List.replicate p.code.length (0 : Int)).set 0 1 = (v0 p.code.length).dl := by
      unfold v0
      match hn : p.code.length, hx2 with
      | n + 1, _ => rfl
    rw [e] at this
    exact this
  have hb3 : Below w1.heap.size w1 (w2.setCell ⟨w1.heap.size, 0, none⟩ (.int .i64 1)) := hb2.setCell (Nat.le_refl _) _
  have HI0 : Hid (scan p.code 0 = .inr (v0 p.code.length) ∧ Vinv p.code 0 (v0 p.code.length)) := ⟨rfl, vinv_start p.code hx2⟩
  clear HRW c00 f00 z00 hb2 q2
  generalize w2.setCell ⟨w1.heap.size, 0, none⟩ (.int .i64 1) = W3 at *
  go_loopw [8, 35] (fun s i wr => ∃ (k : Nat) (st : Vst), k ≤ p.code.length ∧ i = .int .i64 k ∧ s = .int .i64 st.stack ∧ Hid (scan p.code k = .inr st ∧ Vinv p.code k st) ∧ Hid (RowI wr w1.heap.size st.dl) ∧ Below w1.heap.size w1 wr) (fun _ i _ => (p.code.length - intOf i).toNat)
  case atStart => exact ⟨0, _, by omega, rfl, rfl, HI0, HR0, hb3⟩
  case round =>
    obtain ⟨k, st, hk, rfl, rfl, hsc, hrow, hbr⟩ := hrel
    have q3 := (hbr.cell (p := ⟨w.heap.size, 0, none⟩) hz1').trans q0
    have hzr : w.heap.size < wr.heap.size := by have := hbr.size; omega
    have hD := hrow.out.lt
    by_cases hlt : k < p.code.length
    · obtain ⟨b, off, rfl, hbb, ⟨c0, c1⟩, _, _⟩ := elemIns HC.out k hlt
      have d0 := (hbr.cell (p := ⟨b, off + k * 2, none⟩) hbb).trans c0
      have d1 := (hbr.cell (p := ⟨b, off + k * 2 + 1, none⟩) hbb).trans c1
      obtain ⟨hop, hn0, hn8⟩ := HN.out k hlt
      have HIV := hsc.out.2
      have hdlen := HIV.dlen
      have rk := hrow.out.cell k (by rw [hdlen]; exact hlt)
      have hstep : Hid (∀ st', vstep p.code.length k p.code[k] st = .inr st' → scan p.code (k + 1) = .inr st' ∧ Vinv p.code (k + 1) st') := fun st' h => ⟨scan_ok hlt hsc.out.1 h, vinv_step HIV hlt (fun x hx => by
        obtain ⟨i, hi, rfl⟩ := List.mem_iff_getElem.1 hx
        exact (HN.out i hi).2.1) h⟩
      have herr : Hid (∀ e, vstep p.code.length k p.code[k] st = .inl e → verE p = (0, 0, e)) := fun e h => ver_err HG.out (scan_err hlt hsc.out.1 h)
      have hdp := HIV.dpos k
      have hdl := HIV.dle k
      have hs8 := HIV.s8
      have hs0 := HIV.s0
      have HDL := Lib.hid hdlen
      have HOP := Lib.hid hop
      clear c0 c1 HIV hdlen hsc hop
      generalize p.code[k] = x at *
      obtain ⟨op, n⟩ := x
      dsimp only at d0 d1 hn0 hn8
      have HST := hstep
      have HER := herr
      clear hstep herr
      obtain ⟨dk, hdk⟩ : ∃ d, d = gI st.dl k := ⟨_, rfl⟩
      rw [← hdk] at rk hdp hdl
      have HDK := Lib.hid hdk
      clear hdk
      by_cases h0 : dk = 0
      · have hb : (dk == 0) = true := by rw [beq_iff_eq]; exact h0
        have H1 : Hid (scan p.code (k + 1) = .inr st ∧ Vinv p.code (k + 1) st) := HST.out st (by unfold vstep; rw [if_pos (by rw [← HDK.out]; exact h0)])
        have HR1 : Hid (RowI (wr.alloc (.cells #[.int .i64 op, .int .i64 n] 71)) w1.heap.size st.dl) := hrow.out.keep ((Below.refl _ _).alloc (Nat.le_refl _) _)
        have hbr1 := hbr.alloc hbr.size (.cells #[.int .i64 op, .int .i64 n] 71)
        clear h0
        go_wp2
        go_roundw
        case rel => exact ⟨k + 1, st, by omega, by go_num, rfl, H1, HR1, hbr1⟩
        case measure => simp [intOf]; omega
      · have hb : (dk == 0) = false := by rw [beq_eq_false_iff_ne]; exact h0
        obtain ⟨hnb0, hnb2⟩ := need_bd op
        obtain ⟨hmb0, hmb1⟩ := more_bd op
        have HNE : Hid (gI st.dl k ≠ 0) := by rw [← HDK.out]; exact h0
        by_cases hlim : dk - 1 < needI op ∨ 8 < dk - 1 + moreI op
        · have HE : Hid (verE p = (0, 0, 10)) := HER.out 10 (by unfold vstep; rw [if_neg HNE.out, if_pos (by rw [← HDK.out]; exact hlim)])
          have hbr1 := hbr.alloc hbr.size (.cells #[.int .i64 op, .int .i64 n] 71)
          have hl2 : dk - 1 < needI op ∨ (needI op ≤ dk - 1 ∧ 8 < dk - 1 + moreI op) := by omega
          have hdk9 : dk ≤ 9 := by omega
          clear hlim h0
          rcases hl2 with hl | ⟨hl, hl'⟩
          all_goals
            go_wp2_with (go_at_call 78; refine (effect_any op _ HOP.out).mono ?_; rintro e w' ⟨rfl, rfl⟩)
            go_ret3
            exact ⟨by rw [HE.out]; rfl, below_in2 (hw1) hbr1⟩
        · have hl1 : needI op ≤ dk - 1 := by omega
          have hl2 : dk - 1 + moreI op ≤ 8 := by omega
          have hdk9 : dk ≤ 9 := by omega
          have ha0 : 0 ≤ dk - 1 + moreI op := by
            have : needI op + moreI op ≥ 0 := by
              rcases HOP.out with rfl | rfl | rfl | rfl | rfl | rfl <;> decide
            omega
          clear hlim h0
          have hml : st.stack < dk - 1 + moreI op ∨ dk - 1 + moreI op ≤ st.stack := by omega
          obtain ⟨sm, hsm⟩ : ∃ sm, sm = mx st.stack (dk - 1 + moreI op) := ⟨_, rfl⟩
          have HSM := Lib.hid hsm
          have hba := hbr.alloc hbr.size (.cells #[.int .i64 op, .int .i64 n] 71)
          have hrowa : RowI (wr.alloc (.cells #[.int .i64 op, .int .i64 n] 71)) w1.heap.size st.dl := hrow.out.keep ((Below.refl _ _).alloc (Nat.le_refl _) _)
          have hgt5 := Lib.hid (nextI_gt (i := k) (x := ⟨op, n⟩) hn0)
          clear hsm
          rcases hml with hml | hml
          all_goals
            go_wp2_with (first | (go_at_call 78; refine (effect_any op _ HOP.out).mono ?_; rintro e w' ⟨rfl, rfl⟩) | fail)
            refine (next_any k op n _ (by omega) hn0 hn8 HOP.out).mono ?_; rintro e w5 ⟨vt, rfl, hvt, hb5⟩
            obtain ⟨at', ct, rfl⟩ := own_shape hvt
            have hDa : w1.heap.size < (wr.alloc (.cells #[.int .i64 op, .int .i64 n] 71)).heap.size := hrowa.lt
            obtain ⟨Bn, hBn⟩ : ∃ B, B = (wr.alloc (.cells #[.int .i64 op, .int .i64 n] 71)).heap.size := ⟨_, rfl⟩
            rw [← hBn] at hvt hDa
            have hrow5 := Lib.hid (hrowa.keep hb5)
            have hbr5 := hba.trans (hb5.mono hba.size)
            have h64 := next_64 k op n (by omega) hn0 hn8
            obtain ⟨ts, hts⟩ : ∃ ts, ts = nextI k ⟨op, n⟩ := ⟨_, rfl⟩
            rw [← hts] at hvt hgt5 h64 ⊢
            have HTS := Lib.hid hts
            have HVT := Lib.hid hvt
            have H64 := Lib.hid h64
            have htl : ts.length ≤ 2 := by rw [hts]; unfold nextI; split <;> (try split) <;> (try split) <;> simp
            have hzz : w.heap.size < w1.heap.size := hz1'
            clear hvt hts hb5 hba hrowa hBn h64
            obtain ⟨stA, hstA⟩ : ∃ stA : Vst, stA = ⟨st.dl, st.ll, mx st.stack (dk - 1 + moreI op), mx st.steps (gI st.ll k)⟩ := ⟨_, rfl⟩
            have HVG : Hid (vstep p.code.length k ⟨op, n⟩ st = vgo p.code.length (dk - 1 + moreI op) (gI st.ll k) stA ts) := by
              show vstep _ _ _ _ = _
              unfold vstep
              rw [if_neg HNE.out, if_neg (show ¬ (gI st.dl k - 1 < needI op ∨ 8 < gI st.dl k - 1 + moreI op) by rw [← HDK.out]; omega), ← HDK.out, hstA, HTS.out]
            have HDA : Hid (stA.dl = st.dl ∧ stA.stack = mx st.stack (dk - 1 + moreI op)) := by rw [hstA]; exact ⟨rfl, rfl⟩
            clear hstA
            go_wp2
            obtain ⟨wo, rfl⟩ : ∃ wo : World, wo = wr := ⟨_, rfl⟩
            go_loopw [75] (fun i wr => ∃ (j : Nat) (s2 : Vst), j ≤ ts.length ∧ i = .int .i64 j ∧ Hid (vgo p.code.length (dk - 1 + moreI op) (gI st.ll k) stA ts = vgo p.code.length (dk - 1 + moreI op) (gI st.ll k) s2 (ts.drop j)) ∧ Hid (s2.dl.length = p.code.length ∧ s2.stack = stA.stack) ∧ Hid (RowI wr w1.heap.size s2.dl) ∧ Hid (wr.ownsRow Bn 3 1 (.slice at' ts.length ct) ts.length (ts.flatMap encI)) ∧ Below w1.heap.size w1 wr) (fun i _ => (ts.length - intOf i).toNat)
            case atStart => exact ⟨0, stA, by omega, rfl, Lib.hid rfl, ⟨by rw [HDA.out.1]; exact HDL.out, rfl⟩, (by show RowI _ _ stA.dl; rw [HDA.out.1]; exact hrow5.out), HVT, hbr5⟩
            case round =>
              obtain ⟨j, s2, hj, rfl, hvg, hsl, hrw, hvr, hbq⟩ := hrel
              have hDq := hrw.out.lt
              by_cases hjl : j < ts.length
              · obtain ⟨b5, o5, rfl, hb5b, e0, _⟩ := elemInt (ints_of_own (fun x hx => (H64.out x hx).1) hvr.out) j hjl
                have hdj := Lib.hid (List.drop_eq_getElem_cons hjl)
                have ht16 := (H64.out _ (List.getElem_mem hjl)).2
                have htg := hgt5.out _ (List.getElem_mem hjl)
                generalize ts[j] = t at *
                obtain ⟨u, rfl⟩ : ∃ u : Nat, t = u := ⟨t.toNat, by omega⟩
                have hunf : Hid (vgo p.code.length (dk - 1 + moreI op) (gI st.ll k) s2 (ts.drop j) = if (p.code.length : Int) ≤ u then .inl 5 else if gI s2.dl u ≠ 0 ∧ gI s2.dl u ≠ dk - 1 + moreI op + 1 then .inl 4 else vgo p.code.length (dk - 1 + moreI op) (gI st.ll k) (vone s2 (dk - 1 + moreI op) (gI st.ll k) u) (ts.drop (j + 1))) := by
                  show vgo _ _ _ _ _ = _
                  rw [hdj.out]
                  rfl
                by_cases hun : (p.code.length : Int) ≤ u
                · have HE : Hid (verE p = (0, 0, 5)) := HER.out 5 (by rw [HVG.out, hvg.out, hunf.out, if_pos hun])
                  go_wp2
                  go_ret3
                  exact ⟨by rw [HE.out]; rfl, hw1.trans (hbq.mono (Nat.le_of_lt hzz))⟩
                · have hul : u < p.code.length := by omega
                  have rc := hrw.out.cell u (by rw [hsl.out.1]; exact hul)
                  have rf := hrw.out.frz u
                  have hu2 : (u : Int) < (p.code.length : Int) := by omega
                  obtain ⟨g, hgq⟩ : ∃ g, g = gI s2.dl u := ⟨_, rfl⟩
                  rw [← hgq] at rc
                  have HGQ := Lib.hid hgq
                  clear hgq
                  by_cases hbadg : g ≠ 0 ∧ g ≠ dk - 1 + moreI op + 1
                  · have HE : Hid (verE p = (0, 0, 4)) := HER.out 4 (by rw [HVG.out, hvg.out, hunf.out, if_neg hun, if_pos (by rw [← HGQ.out]; exact hbadg)])
                    have t1 : (g != 0) = true := bne_iff_ne.2 hbadg.1
                    have t2 : (g != dk - 1 + moreI op + 1) = true := bne_iff_ne.2 hbadg.2
                    clear hun hbadg
                    go_wp2
                    go_ret3
                    exact ⟨by rw [HE.out]; rfl, hw1.trans (hbq.mono (Nat.le_of_lt hzz))⟩
                  · have hgo : Hid (vgo p.code.length (dk - 1 + moreI op) (gI st.ll k) stA ts = vgo p.code.length (dk - 1 + moreI op) (gI st.ll k) (vone s2 (dk - 1 + moreI op) (gI st.ll k) u) (ts.drop (j + 1))) := by
                      show _ = _
                      rw [hvg.out, hunf.out, if_neg hun, if_neg (by rw [← HGQ.out]; exact hbadg)]
                    have hS1 : Hid ((vone s2 (dk - 1 + moreI op) (gI st.ll k) u).dl.length = p.code.length ∧ (vone s2 (dk - 1 + moreI op) (gI st.ll k) u).stack = stA.stack) := ⟨by show (s2.dl.set _ _).length = _; rw [List.length_set]; exact hsl.out.1, hsl.out.2⟩
                    have hR1 : Hid (RowI (wr.setCell ⟨w1.heap.size, u, none⟩ (.int .i64 (dk - 1 + moreI op + 1))) w1.heap.size (vone s2 (dk - 1 + moreI op) (gI st.ll k) u).dl) := hrw.out.set u _
                    have hV1 := Lib.hid (ownsRow_setCell_below hvr.out (a := ⟨w1.heap.size, u, none⟩) hDa (.int .i64 (dk - 1 + moreI op + 1)))
                    have hbq1 := hbq.setCell (p := ⟨w1.heap.size, u, none⟩) (Nat.le_refl _) (.int .i64 (dk - 1 + moreI op + 1))
                    have hgg : g = 0 ∨ (g ≠ 0 ∧ g = dk - 1 + moreI op + 1) := by omega
                    clear hun hbadg
                    rcases hgg with hgg | ⟨hg0, hgg⟩
                    · have t1 : (g != 0) = false := by rw [bne_eq_false_iff_eq]; exact hgg
                      clear hgg
                      go_wp2
                      go_roundw
                      case rel => exact ⟨j + 1, _, by omega, by go_num, hgo, hS1, hR1, hV1, hbq1⟩
                      case measure => simp [intOf]; omega
                    · have t1 : (g != 0) = true := bne_iff_ne.2 hg0
                      have t2 : (g != dk - 1 + moreI op + 1) = false := by rw [bne_eq_false_iff_eq]; exact hgg
                      clear hgg hg0
                      go_wp2
                      go_roundw
                      case rel => exact ⟨j + 1, _, by omega, by go_num, hgo, hS1, hR1, hV1, hbq1⟩
                      case measure => simp [intOf]; omega
              · have hfin : Hid (scan p.code (k + 1) = .inr s2 ∧ Vinv p.code (k + 1) s2) := HST.out s2 (by
                  rw [HVG.out, hvg.out, List.drop_eq_nil_of_le (by omega)]
                  rfl)
                have hstk : Hid (s2.stack = mx st.stack (dk - 1 + moreI op)) := by show _ = _; rw [hsl.out.2, HDA.out.2]
                go_wp2
                go_roundw
                case rel => exact ⟨k + 1, s2, by omega, by go_num, by rw [hstk.out]; unfold mx; first | rw [if_pos hml] | rw [if_neg (by omega)], hfin, hrw, hbq⟩
                case measure => simp [intOf]; omega
    · have hkn : k = p.code.length := by omega
      have HFI : Hid (scan p.code p.code.length = .inr st) := by have := hsc.out.1; rw [hkn] at this; exact this
      have HVE : Hid (verE p = (gI (sl p.code p.code.length) 0, st.stack, 0)) := by
        show _ = _
        unfold verE
        rw [if_neg (by simpa using HG.out), HFI.out]
      have hbr0 := hw1.trans (hbr.mono (Nat.le_of_lt hz1'))
      have HCr := Lib.hid (HC.out.mono hbr fun _ _ h => h)
      have HBR := Lib.hid hbr
      clear hkn hsc hrow hbr
      go_wp2_with (refine wpList_make_full _ rfl _ _ 25 rfl wr.heap.size 3 i0 (.int .i64 0) 1 Try.underlying25 hi (by assumption) hz1 .i64 .i64 _ _ p.code.length rfl rfl rfl rfl (by rw [hz2]; omega) (by unfold maxLen; omega) (Nat.le_refl _) ?_; intro w4 hown hgr)
      have HRW := Lib.hid (RowI.made hown)
      have hb4 : Below wr.heap.size wr w4 := (Below.refl _ _).grown hgr (Nat.le_refl _) (fun g hg => by cases hg)
      have q4 := (hb4.cell (p := ⟨w.heap.size, 0, none⟩) hzr).trans q3
      have hbr4 := hbr0.trans (hb4.mono hbr0.size)
      have hzr4 : w.heap.size < w4.heap.size := Nat.lt_of_lt_of_le hzr hb4.size
      have HB14 := Lib.hid (HBR.out.trans (hb4.mono HBR.out.size))
      have hw1D : w1.heap.size ≤ wr.heap.size := HBR.out.size
      obtain ⟨D, hDD⟩ : ∃ D, D = wr.heap.size := ⟨_, rfl⟩
      rw [← hDD] at HRW hzr hw1D ⊢
      clear hown hgr hb4 hbr0 HCr HBR hD hDD q3
      have hRS : Hid (RowI w4 D (sl p.code 0)) := HRW.out
      obtain ⟨wo, rfl⟩ : ∃ wo : World, wo = wr := ⟨_, rfl⟩
      go_loopw [17] (fun i wr => ∃ (m : Nat) (I : Int), m ≤ p.code.length ∧ i = .int .i64 I ∧ Hid (I = (p.code.length : Int) - 1 - m) ∧ Hid (RowI wr D (sl p.code m)) ∧ Below D w4 wr) (fun i _ => (intOf i + 1).toNat)
      case atStart => exact ⟨0, _, by omega, rfl, (by show _ = _; omega), hRS, Below.refl _ _⟩
      case round =>
        obtain ⟨m, I, hm, rfl, hI, hrw, hbq⟩ := hrel
        have hDq := hrw.out.lt
        have q5 := (hbq.cell (p := ⟨w.heap.size, 0, none⟩) hzr).trans q4
        by_cases hmn : m < p.code.length
        · obtain ⟨ix, hix⟩ : ∃ ix : Nat, ix = p.code.length - 1 - m := ⟨_, rfl⟩
          obtain rfl : I = (ix : Int) := by have := hI.out; omega
          have hixl : ix < p.code.length := by omega
          have hixm : ix + m < p.code.length := by omega
          obtain ⟨b, off, rfl, hbb, ⟨c0, c1⟩, _, _⟩ := elemIns HC.out ix hixl
          have hB1 : Below w1.heap.size w1 wr := HB14.out.trans (hbq.mono hw1D)
          have d0 := (hB1.cell (p := ⟨b, off + ix * 2, none⟩) hbb).trans c0
          have d1 := (hB1.cell (p := ⟨b, off + ix * 2 + 1, none⟩) hbb).trans c1
          obtain ⟨hop, hn0, hn8⟩ := HN.out ix hixl
          have hcx := List.getElem?_eq_getElem hixl
          generalize p.code[ix] = x at *
          obtain ⟨op, n⟩ := x
          dsimp only at d0 d1 hn0 hn8
          have HOP := Lib.hid hop
          have HCX := Lib.hid hcx
          have HIX := Lib.hid hix
          have h64 := next_64 ix op n (by omega) hn0 hn8
          have hgt5 := nextI_gt (i := ix) (x := ⟨op, n⟩) hn0
          have HSELF := Lib.hid (sl_self p.code m ix hixm)
          have hsb := Lib.hid (sl_bd p.code m)
          have hSL := Lib.hid (sl_len p.code m)
          clear hop hcx hix c0 c1 hI hB1
          go_wp2_with fail
          refine (next_any ix op n _ (by omega) hn0 hn8 HOP.out).mono ?_; rintro e w5 ⟨vt, rfl, hvt, hb5⟩
          obtain ⟨at', ct, rfl⟩ := own_shape hvt
          obtain ⟨Bn, hBn⟩ : ∃ B, B = wr.heap.size := ⟨_, rfl⟩
          rw [← hBn] at hvt
          have hDB : D < Bn := by omega
          have hrow5 := Lib.hid (hrw.out.keep hb5)
          have hbq5 := hbq.trans (hb5.mono (Nat.le_of_lt hDq))
          obtain ⟨ts, hts⟩ : ∃ ts, ts = nextI ix ⟨op, n⟩ := ⟨_, rfl⟩
          rw [← hts] at hvt hgt5 h64 ⊢
          have htl : ts.length ≤ 2 := by rw [hts]; unfold nextI; split <;> (try split) <;> (try split) <;> simp
          have HTS := Lib.hid hts
          have HVT := Lib.hid hvt
          have H64 := Lib.hid h64
          have HGT := Lib.hid hgt5
          have hR5 : Hid (RowI w5 D ((sl p.code m).set ix 0)) := by rw [HSELF.out]; exact hrow5.out
          clear hvt hts hb5 hrow5 hBn h64 hgt5 hbq q5
          go_wp2
          obtain ⟨wo, rfl⟩ : ∃ wo : World, wo = wr := ⟨_, rfl⟩
          go_loopw [123] (fun i wr => ∃ (j : Nat) (mj : Int), j ≤ ts.length ∧ i = .int .i64 j ∧ Hid (best (sl p.code m) p.code.length ts 0 = best (sl p.code m) p.code.length (ts.drop j) mj) ∧ 0 ≤ mj ∧ mj ≤ m ∧ Hid (RowI wr D ((sl p.code m).set ix mj)) ∧ Hid (wr.ownsRow Bn 3 1 (.slice at' ts.length ct) ts.length (ts.flatMap encI)) ∧ Below D w4 wr) (fun i _ => (ts.length - intOf i).toNat)
          case atStart => exact ⟨0, 0, by omega, rfl, Lib.hid rfl, by omega, by omega, hR5, HVT, hbq5⟩
          case round =>
            obtain ⟨j, mj, hj, rfl, hbs, hmj0, hmjm, hrw2, hvr, hbq2⟩ := hrel
            have hDq2 := hrw2.out.lt
            by_cases hjl : j < ts.length
            · obtain ⟨b5, o5, rfl, hb5b, e0, _⟩ := elemInt (ints_of_own (fun x hx => (H64.out x hx).1) hvr.out) j hjl
              have hdj := Lib.hid (List.drop_eq_getElem_cons hjl)
              have ht16 := (H64.out _ (List.getElem_mem hjl)).2
              have htg := HGT.out _ (List.getElem_mem hjl)
              generalize ts[j] = t at *
              obtain ⟨u, rfl⟩ : ∃ u : Nat, t = u := ⟨t.toNat, by omega⟩
              by_cases hun : (u : Int) < (p.code.length : Int)
              · have hnx : Hid (best (sl p.code m) p.code.length ts 0 = best (sl p.code m) p.code.length (ts.drop (j + 1)) (mx mj (gI (sl p.code m) u))) := by
                  show _ = _
                  rw [hbs.out, hdj.out, best_cons, if_pos hun]
                have hlen2 : ((sl p.code m).set ix mj).length = p.code.length := by rw [List.length_set]; exact hSL.out
                have ri := (hrw2.out.cell ix (by rw [hlen2]; exact hixl)).trans (by rw [show gI ((sl p.code m).set ix mj) ix = mj from by unfold gI; rw [Int.toNat_natCast, getD_set_, if_pos ⟨rfl, by rw [hSL.out]; exact hixl⟩]])
                have ru := (hrw2.out.cell u (by rw [hlen2]; omega)).trans (by rw [show gI ((sl p.code m).set ix mj) u = gI (sl p.code m) u from by unfold gI; rw [Int.toNat_natCast, getD_set_, if_neg (fun h => by have := h.1; omega)]])
                have rf := hrw2.out.frz ix
                obtain ⟨gu, hgu⟩ : ∃ g, g = gI (sl p.code m) u := ⟨_, rfl⟩
                rw [← hgu] at ru
                have hgb : 0 ≤ gu ∧ gu ≤ m := by rw [hgu]; exact hsb.out u
                have HGU := Lib.hid hgu
                have hR6 : ∀ v, Hid (RowI (wr.setCell ⟨D, ix, none⟩ (.int .i64 v)) D ((sl p.code m).set ix v)) := fun v => by
                  have := hrw2.out.set ix v
                  rw [List.set_set] at this
                  exact this
                have hV6 : ∀ v, Hid ((wr.setCell ⟨D, ix, none⟩ (.int .i64 v)).ownsRow Bn 3 1 (.slice (some ⟨b5, o5, none⟩) ts.length ct) ts.length (ts.flatMap encI)) := fun v => ownsRow_setCell_below hvr.out (a := ⟨D, ix, none⟩) hDB _
                have hB6 : ∀ v, Below D w4 (wr.setCell ⟨D, ix, none⟩ (.int .i64 v)) := fun v => hbq2.setCell (p := ⟨D, ix, none⟩) (Nat.le_refl _) _
                have HR6 := Lib.hid hR6
                have HV6 := Lib.hid hV6
                have HB6 := Lib.hid hB6
                have hii : (ix : Int) < (p.code.length : Int) := by omega
                clear hgu hlen2 hR6 hV6 hB6
                rcases (show mj < gu ∨ gu ≤ mj by omega) with hc | hc
                · have hn2 : Hid (best (sl p.code m) p.code.length ts 0 = best (sl p.code m) p.code.length (ts.drop (j + 1)) gu) := by
                    have := hnx.out
                    rw [← HGU.out] at this
                    unfold mx at this
                    rw [if_pos hc] at this
                    exact this
                  go_wp2
                  go_still_tail 12, (by kernel_rfl)
                  change wpList _ _ _ _ _ wr.drew
                  go_wp2
                  go_roundw
                  case rel => exact ⟨j + 1, gu, by omega, by go_num, hn2, by omega, by omega, (HR6.out gu).out.drew, (HV6.out gu).out.drew, (HB6.out gu).drew⟩
                  case measure => simp [intOf]; omega
                · have hn2 : Hid (best (sl p.code m) p.code.length ts 0 = best (sl p.code m) p.code.length (ts.drop (j + 1)) mj) := by
                    have := hnx.out
                    rw [← HGU.out] at this
                    unfold mx at this
                    rw [if_neg (by omega)] at this
                    exact this
                  go_wp2
                  go_still_tail 12, (by kernel_rfl)
                  change wpList _ _ _ _ _ wr.drew
                  go_wp2
                  go_roundw
                  case rel => exact ⟨j + 1, mj, by omega, by go_num, hn2, by omega, by omega, (HR6.out mj).out.drew, (HV6.out mj).out.drew, (HB6.out mj).drew⟩
                  case measure => simp [intOf]; omega
              · have hnx : Hid (best (sl p.code m) p.code.length ts 0 = best (sl p.code m) p.code.length (ts.drop (j + 1)) mj) := by
                  show _ = _
                  rw [hbs.out, hdj.out, best_cons, if_neg hun]
                go_wp2
                go_roundw
                case rel => exact ⟨j + 1, mj, by omega, by go_num, hnx, hmj0, hmjm, hrw2, hvr, hbq2⟩
                case measure => simp [intOf]; omega
            · have hfin : best (sl p.code m) p.code.length (nextI ix ⟨op, n⟩) 0 = mj := by
                rw [← HTS.out, hbs.out, List.drop_eq_nil_of_le (by omega), best_nil]
              have hR7 : Hid (RowI (wr.setCell ⟨D, ix, none⟩ (.int .i64 (mj + 1))) D (sl p.code (m + 1))) := by
                have := hrw2.out.set ix (mj + 1)
                rw [List.set_set] at this
                have e := sl_done p.code m hmn ⟨op, n⟩ (by rw [← HIX.out]; exact HCX.out) mj (by rw [← HIX.out]; exact hfin)
                rw [← HIX.out] at e
                rw [e] at this
                exact this
              have ri := (hrw2.out.cell ix (by rw [List.length_set, hSL.out]; exact hixl)).trans (by rw [show gI ((sl p.code m).set ix mj) ix = mj from by unfold gI; rw [Int.toNat_natCast, getD_set_, if_pos ⟨rfl, by rw [hSL.out]; exact hixl⟩]])
              have rf := hrw2.out.frz ix
              have hB7 := hbq2.setCell (p := ⟨D, ix, none⟩) (Nat.le_refl _) (.int .i64 (mj + 1))
              have hI7 : Hid ((ix : Int) - 1 = (p.code.length : Int) - 1 - ((m + 1 : Nat) : Int)) := by show _ = _; have := HIX.out; omega
              have hii : (ix : Int) < (p.code.length : Int) := by omega
              clear hfin
              go_wp2
              go_roundw
              case rel => exact ⟨m + 1, _, by omega, rfl, hI7, hR7, hB7⟩
              case measure => simp [intOf]
        · have hIn : I < 0 := by have := hI.out; omega
          have hmq : m = p.code.length := by omega
          have hR2 : Hid (RowI wr D (sl p.code p.code.length)) := by have := hrw.out; rw [hmq] at this; exact this
          have r0 := hR2.out.cell 0 (by rw [sl_len]; exact hx2)
          have hbE := hbr4.trans (hbq.mono (Nat.le_of_lt hzr))
          have HVE2 := HVE
          clear hI hmq hrw
          go_wp2
          go_ret3
          exact ⟨by rw [HVE2.out]; rfl, hbE⟩
end Go.Proofs.Ytpnmaopompfalaa
