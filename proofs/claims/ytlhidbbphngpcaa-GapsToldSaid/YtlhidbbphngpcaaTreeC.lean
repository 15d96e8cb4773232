/-
  What the document's function on forests answers: the check; and the law.
-/
import Derived.Test.YtlhidbbphngpcaaTreeB
namespace Go.Proofs.Ytlhidbbphngpcaa
set_option linter.unusedVariables false
set_option linter.unusedSimpArgs false
open Go.ChangeShapes Go.WideShapes Go.ChangeAt Go.RowKit

theorem in_lit (n lo hi : Int) (r : Bool) (w : World) (h : decide (lo ≤ n ∧ n ≤ hi) = r) :
    Calls Try.prog 42 #[.int .i64 n, .int .i64 lo, .int .i64 hi] w fun e w' => e = .returned (.bool r) ∧ w = w' := h ▸ in_any n lo hi w
theorem answerfault_lit (a : Ans) (vo : Value) (r : Int) (w : World) (hv : SlAt w 1 RInt vo a.offs) (hn : a.ck.nm.size ≤ maxLen) (h : ansE a = r) :
    Calls Try.prog 41 #[.agg #[.int .i64 a.ck.off, .bool a.ck.sav, .string a.ck.nm, vo, .int .i64 a.jump]] w fun e w' => e = .returned (.int .i64 r) ∧ Below w.heap.size w w' := h ▸ answerfault_any a vo w hv hn
set_option maxRecDepth 100000 in
set_option maxHeartbeats 4000000 in
theorem fault_any (f : Frs) (vn va : Value) (w : World) (hf : FrsAt w vn va f) :
    Calls Try.prog 12 #[.agg #[vn, va]] w fun e w' => e = .returned (.int .i64 (frsE f)) ∧ Below w.heap.size w w' := by
  obtain ⟨nodes, answers⟩ := f
  obtain ⟨hn, ha⟩ := hf
  dsimp only at hn ha
  obtain ⟨an, cn, rfl, ln⟩ := hn.shape
  obtain ⟨aa, ca, rfl, la⟩ := ha.shape
  have ln' := maxLen_eq _ ln
  have la' := maxLen_eq _ la
  have HN := Lib.hid hn
  have HA := Lib.hid ha
  clear hn ha ln la
  by_cases h0 : nodes.length = 0
  · have hb : ((nodes.length : Int) == 0) = true := by simpa using h0
    have HE : Hid (frsE ⟨nodes, answers⟩ = 6) := by show frsE _ = 6; unfold frsE; rw [if_pos h0]
    clear h0
    go_enter Try.func12, Try.ntmps12
    go_wp2
    go_ret
    exact ⟨ret_int HE.out.symm, (Below.refl _ _).alloc (Nat.le_refl _) _⟩
  · have hb : ((nodes.length : Int) == 0) = false := by rw [beq_eq_false_iff_ne]; omega
    by_cases h1 : 8000 < nodes.length ∨ 2000 < answers.length
    · have HE : Hid (frsE ⟨nodes, answers⟩ = 1) := by show frsE _ = 1; unfold frsE; rw [if_neg h0, if_pos h1]
      have hx : 8000 < (nodes.length : Int) ∨ ((nodes.length : Int) ≤ 8000 ∧ 2000 < (answers.length : Int)) := by omega
      clear h0 h1
      rcases hx with hx | ⟨hx, hy⟩
      all_goals
        go_enter Try.func12, Try.ntmps12
        go_wp2
        go_ret
        exact ⟨ret_int HE.out.symm, (Below.refl _ _).alloc (Nat.le_refl _) _⟩
    · have hx : (nodes.length : Int) ≤ 8000 := by omega
      have hy : (answers.length : Int) ≤ 2000 := by omega
      have H0 := Lib.hid h0
      have H1 := Lib.hid h1
      clear h0 h1
      go_enter Try.func12, Try.ntmps12
      go_wp2
      have b0 : (w.alloc (.cells #[.slice an nodes.length cn, .slice aa answers.length ca] 26)).cell? ⟨w.heap.size, 0, none⟩ = some (.slice an nodes.length cn) := (World.cell?_alloc_at (w := w) _ _ w.heap.size 0 rfl).trans rfl
      have b1 : (w.alloc (.cells #[.slice an nodes.length cn, .slice aa answers.length ca] 26)).cell? ⟨w.heap.size, 1, none⟩ = some (.slice aa answers.length ca) := (World.cell?_alloc_at (w := w) _ _ w.heap.size 1 rfl).trans rfl
      have bz : w.heap.size < (w.alloc (.cells #[.slice an nodes.length cn, .slice aa answers.length ca] 26)).heap.size := by simp
      have bw : Below w.heap.size w (w.alloc (.cells #[.slice an nodes.length cn, .slice aa answers.length ca] 26)) := (Below.refl _ _).alloc (Nat.le_refl _) _
      generalize w.alloc (.cells #[.slice an nodes.length cn, .slice aa answers.length ca] 26) = W1 at *
      have HN1 := Lib.hid (HN.out.mono bw fun _ _ h => h)
      have HA1 := Lib.hid (HA.out.mono bw (RAns.mono bw))
      clear HN HA
      go_loopw [3] (fun t wr => ∃ k : Nat, k ≤ answers.length ∧ t = .int .i64 k ∧ Hid (∀ i (hi : i < answers.length), i < k → ansE answers[i] = 0) ∧ Below W1.heap.size W1 wr) (fun t _ => (answers.length - intOf t).toNat)
      case atStart => exact ⟨0, by omega, rfl, fun i _ h => by omega, Below.refl _ _⟩
      case round =>
        obtain ⟨k, hk, rfl, hz, hbr⟩ := hrel
        obtain ⟨hc, hf⟩ := bcell hbr
        by_cases hlt : k < answers.length
        · obtain ⟨b, off, vo, rfl, hbb, ⟨c0, c1, c2, c3, c4⟩, hvo, hnm, _, _⟩ := elemAns HA1.out k hlt
          obtain ⟨ao, co, rfl, lo⟩ := hvo.shape
          by_cases he : ansE answers[k] = 0
          · have hz' : Hid (∀ i (hi : i < answers.length), i < k + 1 → ansE answers[i] = 0) := fun i hi h => by
              by_cases e : i = k
              · subst e; exact he
              · exact hz.out i hi (by omega)
            have HV := Lib.hid (hvo.mono hbr fun _ _ h => h)
            have HM := Lib.hid hnm
            have HE := Lib.hid he
            clear he hvo hnm hz lo
            generalize answers[k] = x at *
            go_wp2_with fail
            refine (answerfault_lit x _ 0 _ HV.out HM.out HE.out).mono ?_; rintro e w2 ⟨rfl, hb2⟩
            go_wp2
            go_roundw
            case rel => exact ⟨k + 1, by omega, by go_num, hz', hbr.trans (hb2.mono hbr.size)⟩
            case measure => simp [intOf]; omega
          · have hb : (ansE answers[k] != 0) = true := by rw [bne_iff_ne]; exact he
            have HX : Hid (frsE ⟨nodes, answers⟩ = ansE answers[k]) := by
              have h2 : anssE answers = ansE answers[k] := by
                have := ferr_at (fun _ a => ansE a) answers 0 k hlt (fun i hi => hz.out i (by omega) hi) he
                exact this
              show frsE _ = _
              unfold frsE
              rw [if_neg H0.out, if_neg H1.out, if_pos (by rw [h2]; exact he), h2]
            have HV := Lib.hid (hvo.mono hbr fun _ _ h => h)
            have HM := Lib.hid hnm
            clear he hvo hnm hz lo
            generalize answers[k] = x at *
            go_wp2_with fail
            refine (answerfault_any x _ _ HV.out HM.out).mono ?_; rintro e w2 ⟨rfl, hb2⟩
            go_wp2
            go_ret
            exact ⟨ret_int HX.out.symm, bw.trans ((hbr.trans (hb2.mono hbr.size)).mono bw.size)⟩
        · have HS : Hid (anssE answers = 0) := by
            have := ferr_none (fun _ a => ansE a) answers 0 (fun i hi => hz.out i hi (by omega))
            exact this
          clear hz
          go_wp2_with fail
          have HN2 := Lib.hid (HN1.out.mono hbr fun _ _ h => h)
          clear HA1 HN1
          have hbr0 := bw.trans (hbr.mono bw.size)
          have e0 : wr.cell? ⟨w.heap.size, 0, none⟩ = some (.slice an nodes.length cn) := (hc _ _ bz).trans b0
          have e1 : wr.cell? ⟨w.heap.size, 1, none⟩ = some (.slice aa answers.length ca) := (hc _ _ bz).trans b1
          have ez : w.heap.size < wr.heap.size := Nat.lt_of_lt_of_le bz hbr.size
          clear hc hf b0 b1 bz bw hbr hk hlt
          go_wp2
          go_loopw [5] (fun t wq => ∃ k : Nat, k ≤ nodes.length ∧ t = .int .i64 k ∧ Hid (∀ i (hi : i < nodes.length), i < k → nodE answers.length (i : Nat) nodes[i] = 0) ∧ Below wr.heap.size wr wq) (fun t _ => (nodes.length - intOf t).toNat)
          case atStart => exact ⟨0, by omega, rfl, fun i _ h => by omega, Below.refl _ _⟩
          case round =>
            obtain ⟨k, hk, rfl, hz, hbq⟩ := hrel
            obtain ⟨hc, hf⟩ := bcell hbq
            have ezq := Nat.lt_of_lt_of_le ez hbq.size
            by_cases hlt : k < nodes.length
            · obtain ⟨b, off, rfl, hbb, c0, c1, c2, c3, c4⟩ := elemNod HN2.out k hlt
              have hbad : ∀ r : Int, r ≠ 0 → nodE answers.length (k : Nat) nodes[k] = r → frsE ⟨nodes, answers⟩ = r := fun r hr h => by
                have h2 : nodsE answers.length nodes = r := by
                  have := ferr_at (fun i n => nodE answers.length i n) nodes 0 k hlt (fun i hi => by simpa using hz.out i (by omega) hi) (by simpa [h] using hr)
                  simp only [Nat.zero_add] at this
                  exact this.trans h
                unfold frsE
                rw [if_neg H0.out, if_neg H1.out, if_neg (by rw [HS.out]; simp), h2]
              have hgood : nodE answers.length (k : Nat) nodes[k] = 0 → Hid (∀ i (hi : i < nodes.length), i < k + 1 → nodE answers.length (i : Nat) nodes[i] = 0) := fun h i hi h' => by
                by_cases e : i = k
                · subst e; exact h
                · exact hz.out i hi (by omega)
              have HB := Lib.hid hbad
              have HG := Lib.hid hgood
              have hcase := nodE_cases answers.length (k : Nat) nodes[k]
              clear hbad hgood hz
              generalize nodes[k] = nd at *
              obtain ⟨lf, nan, nbd, nls, nmr⟩ := nd
              dsimp only at c0 c1 c2 c3 c4 hcase
              rcases hcase with ⟨rfl, q1, hr⟩ | ⟨rfl, q1, q2, hr⟩ | ⟨rfl, q1, q2, q3, hr⟩ | ⟨rfl, q1, q2, rfl, q3, hr⟩ | ⟨rfl, q1, q2, rfl, rfl, q3, hr⟩ | ⟨rfl, q1, q2, rfl, rfl, rfl, hr⟩ | ⟨rfl, q3, hr⟩ | ⟨rfl, rfl, q1, hr⟩ | ⟨rfl, rfl, q1, q2, hr⟩ | ⟨rfl, rfl, q1, q2, q3, hr⟩ | ⟨rfl, rfl, q1, q2, q3, q4, hr⟩ | ⟨rfl, rfl, q1, q2, q3, q4, hr⟩
              · have D1 : Hid (decide (0 ≤ nan ∧ nan ≤ (answers.length : Int) - 1) = false) := by show decide (0 ≤ nan ∧ nan ≤ (answers.length : Int) - 1) = false; rw [decide_eq_false_iff_not]; omega
                have HR := Lib.hid (HB.out 2 (by omega) hr)
                clear hr HB HG
                go_wp2_with (go_at_call 42; (first | (with_reducible refine (in_lit nan 0 ((answers.length : Int) - 1) false _ D1.out).mono ?_)); rintro e w' ⟨rfl, rfl⟩)
                go_ret
                exact ⟨ret_int HR.out.symm, (hbr0.trans (hbq.mono hbr0.size)).alloc (Nat.le_trans hbr0.size hbq.size) _⟩
              · have D1 : Hid (decide (0 ≤ nan ∧ nan ≤ (answers.length : Int) - 1) = false) := by show decide (0 ≤ nan ∧ nan ≤ (answers.length : Int) - 1) = false; rw [decide_eq_false_iff_not]; omega
                have HR := Lib.hid (HB.out 2 (by omega) hr)
                clear hr HB HG
                go_wp2_with (go_at_call 42; (first | (with_reducible refine (in_lit nan 0 ((answers.length : Int) - 1) false _ D1.out).mono ?_)); rintro e w' ⟨rfl, rfl⟩)
                go_ret
                exact ⟨ret_int HR.out.symm, (hbr0.trans (hbq.mono hbr0.size)).alloc (Nat.le_trans hbr0.size hbq.size) _⟩
              · have D1 : Hid (decide (0 ≤ nan ∧ nan ≤ (answers.length : Int) - 1) = true) := by show decide (0 ≤ nan ∧ nan ≤ (answers.length : Int) - 1) = true; rw [decide_eq_true_eq]; omega
                have t1 : (nbd != 0) = true := bne_iff_ne.2 q3
                clear q3
                have HR := Lib.hid (HB.out 4 (by omega) hr)
                clear hr HB HG
                go_wp2_with (go_at_call 42; (first | (with_reducible refine (in_lit nan 0 ((answers.length : Int) - 1) true _ D1.out).mono ?_)); rintro e w' ⟨rfl, rfl⟩)
                go_ret
                exact ⟨ret_int HR.out.symm, (hbr0.trans (hbq.mono hbr0.size)).alloc (Nat.le_trans hbr0.size hbq.size) _⟩
              · have D1 : Hid (decide (0 ≤ nan ∧ nan ≤ (answers.length : Int) - 1) = true) := by show decide (0 ≤ nan ∧ nan ≤ (answers.length : Int) - 1) = true; rw [decide_eq_true_eq]; omega
                have t1 : (nls != 0) = true := bne_iff_ne.2 q3
                clear q3
                have HR := Lib.hid (HB.out 4 (by omega) hr)
                clear hr HB HG
                go_wp2_with (go_at_call 42; (first | (with_reducible refine (in_lit nan 0 ((answers.length : Int) - 1) true _ D1.out).mono ?_)); rintro e w' ⟨rfl, rfl⟩)
                go_ret
                exact ⟨ret_int HR.out.symm, (hbr0.trans (hbq.mono hbr0.size)).alloc (Nat.le_trans hbr0.size hbq.size) _⟩
              · have D1 : Hid (decide (0 ≤ nan ∧ nan ≤ (answers.length : Int) - 1) = true) := by show decide (0 ≤ nan ∧ nan ≤ (answers.length : Int) - 1) = true; rw [decide_eq_true_eq]; omega
                have t1 : (nmr != 0) = true := bne_iff_ne.2 q3
                clear q3
                have HR := Lib.hid (HB.out 4 (by omega) hr)
                clear hr HB HG
                go_wp2_with (go_at_call 42; (first | (with_reducible refine (in_lit nan 0 ((answers.length : Int) - 1) true _ D1.out).mono ?_)); rintro e w' ⟨rfl, rfl⟩)
                go_ret
                exact ⟨ret_int HR.out.symm, (hbr0.trans (hbq.mono hbr0.size)).alloc (Nat.le_trans hbr0.size hbq.size) _⟩
              · have D1 : Hid (decide (0 ≤ nan ∧ nan ≤ (answers.length : Int) - 1) = true) := by show decide (0 ≤ nan ∧ nan ≤ (answers.length : Int) - 1) = true; rw [decide_eq_true_eq]; omega
                have HZ := HG.out hr
                clear hr HB HG
                go_wp2_with (go_at_call 42; (first | (with_reducible refine (in_lit nan 0 ((answers.length : Int) - 1) true _ D1.out).mono ?_)); rintro e w' ⟨rfl, rfl⟩)
                go_roundw
                case rel => exact ⟨k + 1, by omega, by go_num, HZ, hbq.alloc hbq.size _⟩
                case measure => simp [intOf]; omega
              · have t1 : (nan != 0) = true := bne_iff_ne.2 q3
                clear q3
                have HR := Lib.hid (HB.out 4 (by omega) hr)
                clear hr HB HG
                go_wp2
                go_ret
                exact ⟨ret_int HR.out.symm, (hbr0.trans (hbq.mono hbr0.size)).alloc (Nat.le_trans hbr0.size hbq.size) _⟩
              · have D1 : Hid (decide (0 ≤ nls ∧ nls ≤ (k : Int) - 1) = false) := by show decide (0 ≤ nls ∧ nls ≤ (k : Int) - 1) = false; rw [decide_eq_false_iff_not]; omega
                have HR := Lib.hid (HB.out 8 (by omega) hr)
                clear hr HB HG
                go_wp2_with (go_at_call 42; (first | (with_reducible refine (in_lit nls 0 ((k : Int) - 1) false _ D1.out).mono ?_)); rintro e w' ⟨rfl, rfl⟩)
                go_ret
                exact ⟨ret_int HR.out.symm, (hbr0.trans (hbq.mono hbr0.size)).alloc (Nat.le_trans hbr0.size hbq.size) _⟩
              · have D1 : Hid (decide (0 ≤ nls ∧ nls ≤ (k : Int) - 1) = false) := by show decide (0 ≤ nls ∧ nls ≤ (k : Int) - 1) = false; rw [decide_eq_false_iff_not]; omega
                have HR := Lib.hid (HB.out 8 (by omega) hr)
                clear hr HB HG
                go_wp2_with (go_at_call 42; (first | (with_reducible refine (in_lit nls 0 ((k : Int) - 1) false _ D1.out).mono ?_)); rintro e w' ⟨rfl, rfl⟩)
                go_ret
                exact ⟨ret_int HR.out.symm, (hbr0.trans (hbq.mono hbr0.size)).alloc (Nat.le_trans hbr0.size hbq.size) _⟩
              · have D1 : Hid (decide (0 ≤ nls ∧ nls ≤ (k : Int) - 1) = true) := by show decide (0 ≤ nls ∧ nls ≤ (k : Int) - 1) = true; rw [decide_eq_true_eq]; omega
                have D2 : Hid (decide (0 ≤ nmr ∧ nmr ≤ (k : Int) - 1) = false) := by show decide (0 ≤ nmr ∧ nmr ≤ (k : Int) - 1) = false; rw [decide_eq_false_iff_not]; omega
                have HR := Lib.hid (HB.out 8 (by omega) hr)
                clear hr HB HG
                go_wp2_with (go_at_call 42; (first | (with_reducible refine (in_lit nls 0 ((k : Int) - 1) true _ D1.out).mono ?_) | (with_reducible refine (in_lit nmr 0 ((k : Int) - 1) false _ D2.out).mono ?_)); rintro e w' ⟨rfl, rfl⟩)
                go_ret
                exact ⟨ret_int HR.out.symm, (hbr0.trans (hbq.mono hbr0.size)).alloc (Nat.le_trans hbr0.size hbq.size) _⟩
              · have D1 : Hid (decide (0 ≤ nls ∧ nls ≤ (k : Int) - 1) = true) := by show decide (0 ≤ nls ∧ nls ≤ (k : Int) - 1) = true; rw [decide_eq_true_eq]; omega
                have D2 : Hid (decide (0 ≤ nmr ∧ nmr ≤ (k : Int) - 1) = false) := by show decide (0 ≤ nmr ∧ nmr ≤ (k : Int) - 1) = false; rw [decide_eq_false_iff_not]; omega
                have HR := Lib.hid (HB.out 8 (by omega) hr)
                clear hr HB HG
                go_wp2_with (go_at_call 42; (first | (with_reducible refine (in_lit nls 0 ((k : Int) - 1) true _ D1.out).mono ?_) | (with_reducible refine (in_lit nmr 0 ((k : Int) - 1) false _ D2.out).mono ?_)); rintro e w' ⟨rfl, rfl⟩)
                go_ret
                exact ⟨ret_int HR.out.symm, (hbr0.trans (hbq.mono hbr0.size)).alloc (Nat.le_trans hbr0.size hbq.size) _⟩
              · have D1 : Hid (decide (0 ≤ nls ∧ nls ≤ (k : Int) - 1) = true) := by show decide (0 ≤ nls ∧ nls ≤ (k : Int) - 1) = true; rw [decide_eq_true_eq]; omega
                have D2 : Hid (decide (0 ≤ nmr ∧ nmr ≤ (k : Int) - 1) = true) := by show decide (0 ≤ nmr ∧ nmr ≤ (k : Int) - 1) = true; rw [decide_eq_true_eq]; omega
                have HZ := HG.out hr
                clear hr HB HG
                go_wp2_with (go_at_call 42; (first | (with_reducible refine (in_lit nls 0 ((k : Int) - 1) true _ D1.out).mono ?_) | (with_reducible refine (in_lit nmr 0 ((k : Int) - 1) true _ D2.out).mono ?_)); rintro e w' ⟨rfl, rfl⟩)
                go_roundw
                case rel => exact ⟨k + 1, by omega, by go_num, HZ, hbq.alloc hbq.size _⟩
                case measure => simp [intOf]; omega
            · have HR : Hid (frsE ⟨nodes, answers⟩ = 0) := by
                have h2 : nodsE answers.length nodes = 0 := ferr_none (fun i n => nodE answers.length i n) nodes 0 (fun i hi => by simpa using hz.out i hi (by omega))
                show frsE _ = 0
                unfold frsE
                rw [if_neg H0.out, if_neg H1.out, if_neg (by rw [HS.out]; simp), h2]
              clear hz
              go_wp2
              go_ret
              exact ⟨ret_int HR.out.symm, hbr0.trans (hbq.mono hbr0.size)⟩
end Go.Proofs.Ytlhidbbphngpcaa
