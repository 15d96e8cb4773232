/-
  What the functions on forests answer: the check.
-/
import Derived.Test.YtlhidbbphngpcaaDoorTreeA
namespace Go.Proofs.YtlhidbbphngpcaaDoor
set_option linter.unusedVariables false
set_option linter.unusedSimpArgs false
open Go.ChangeShapes Go.WideShapes Go.ChangeAt Go.RowKit

/-- the first number that is not 0. -/
def ferr {α : Type} (f : Nat → α → Int) : Nat → List α → Int
  | _, [] => 0
  | i, x :: xs => if f i x ≠ 0 then f i x else ferr f (i + 1) xs
theorem ferr_at {α : Type} (f : Nat → α → Int) : ∀ (xs : List α) (s k : Nat) (h : k < xs.length), (∀ i (hi : i < k), f (s + i) (xs[i]'(by omega)) = 0) → f (s + k) xs[k] ≠ 0 → ferr f s xs = f (s + k) xs[k]
  | x :: xs, s, 0, _, _, hp => by unfold ferr; simp at hp ⊢; simp [hp]
  | x :: xs, s, k + 1, h, hn, hp => by
    have h0 := hn 0 (by omega)
    simp at h0
    have ih := ferr_at f xs (s + 1) k (by simpa using h) (fun i hi => by have := hn (i + 1) (by omega); simpa [Nat.add_assoc, Nat.add_comm 1 i] using this) (by simpa [Nat.add_assoc, Nat.add_comm 1 k] using hp)
    unfold ferr; simp [h0]
    rw [ih]; simp [Nat.add_assoc, Nat.add_comm 1 k]
theorem ferr_none {α : Type} (f : Nat → α → Int) : ∀ (xs : List α) (s : Nat), (∀ i (hi : i < xs.length), f (s + i) xs[i] = 0) → ferr f s xs = 0
  | [], _, _ => rfl
  | x :: xs, s, hn => by
    have h0 := hn 0 (by simp)
    simp at h0
    have ih := ferr_none f xs (s + 1) (fun i hi => by have := hn (i + 1) (by simpa using hi); simpa [Nat.add_assoc, Nat.add_comm 1 i] using this)
    unfold ferr; simp [h0, ih]
/-- what is wrong with a node. -/
def nodE (m i : Int) (n : Nod) : Int :=
  if n.lf = true then (if n.an < 0 ∨ m ≤ n.an then 2 else if n.bd ≠ 0 ∨ n.ls ≠ 0 ∨ n.mr ≠ 0 then 4 else 0)
  else (if n.an ≠ 0 then 4 else if n.ls < 0 ∨ i ≤ n.ls ∨ n.mr < 0 ∨ i ≤ n.mr then 8 else 0)
def anssE (l : List Ans) : Int := ferr (fun _ a => ansE a) 0 l
def nodsE (m : Int) (l : List Nod) : Int := ferr (fun i n => nodE m i n) 0 l
/-- what is wrong with a forest. -/
def frsE (f : Frs) : Int :=
  if f.nodes.length = 0 then 6 else if 8000 < f.nodes.length ∨ 2000 < f.answers.length then 1
  else if anssE f.answers ≠ 0 then anssE f.answers else nodsE f.answers.length f.nodes
theorem elemAns {w : World} {aa : Option Addr} {n ca : Nat} {xs : List Ans} (h : SlAt w 5 (RAns w) (.slice aa n ca) xs) (k : Nat) (hk : k < xs.length) :
    ∃ b off vo, aa = some ⟨b, off, none⟩ ∧ b < w.heap.size ∧
      (w.cell? ⟨b, off + k * 5, none⟩ = some (.int .i64 xs[k].ck.off) ∧ w.cell? ⟨b, off + k * 5 + 1, none⟩ = some (.bool xs[k].ck.sav) ∧ w.cell? ⟨b, off + k * 5 + 2, none⟩ = some (.string xs[k].ck.nm) ∧ w.cell? ⟨b, off + k * 5 + 3, none⟩ = some vo ∧ w.cell? ⟨b, off + k * 5 + 4, none⟩ = some (.int .i64 xs[k].jump)) ∧
      SlAt w 1 RInt vo xs[k].offs ∧ xs[k].ck.nm.size ≤ maxLen ∧ I64 xs[k].ck.off ∧ I64 xs[k].jump := by
  rcases h with ⟨a, cap, hv, rfl⟩ | ⟨b, off, cap, hv, h0, h1, h2, h3, h4⟩
  · simp at hk
  · obtain ⟨cs, _, ⟨vo, rfl, r1, r2, r3, r4⟩, c3⟩ := h4 k hk
    simp only [Value.slice.injEq] at hv
    exact ⟨b, off, vo, hv.1, h3, ⟨c3 0 (by omega), c3 1 (by omega), c3 2 (by omega), c3 3 (by omega), c3 4 (by omega)⟩, r1, r4, r2, r3⟩
theorem elemNod {w : World} {aa : Option Addr} {n ca : Nat} {xs : List Nod} (h : SlAt w 5 RNod (.slice aa n ca) xs) (k : Nat) (hk : k < xs.length) :
    ∃ b off, aa = some ⟨b, off, none⟩ ∧ b < w.heap.size ∧
      (w.cell? ⟨b, off + k * 5, none⟩ = some (.bool xs[k].lf) ∧ w.cell? ⟨b, off + k * 5 + 1, none⟩ = some (.int .i64 xs[k].an) ∧ w.cell? ⟨b, off + k * 5 + 2, none⟩ = some (.int .i64 xs[k].bd) ∧ w.cell? ⟨b, off + k * 5 + 3, none⟩ = some (.int .i64 xs[k].ls) ∧ w.cell? ⟨b, off + k * 5 + 4, none⟩ = some (.int .i64 xs[k].mr)) := by
  rcases h with ⟨a, cap, hv, rfl⟩ | ⟨b, off, cap, hv, h0, h1, h2, h3, h4⟩
  · simp at hk
  · obtain ⟨cs, _, ⟨rfl, _⟩, c3⟩ := h4 k hk
    simp only [Value.slice.injEq] at hv
    exact ⟨b, off, hv.1, h3, ⟨c3 0 (by omega), c3 1 (by omega), c3 2 (by omega), c3 3 (by omega), c3 4 (by omega)⟩⟩
theorem checkanswer_lit (a : Ans) (vo : Value) (r : Int) (w : World) (hv : SlAt w 1 RInt vo a.offs) (hn : a.ck.nm.size ≤ maxLen) (h : ansE a = r) :
    Calls Tryd.prog 56 #[.agg #[.int .i64 a.ck.off, .bool a.ck.sav, .string a.ck.nm, vo, .int .i64 a.jump]] w fun e w' => e = .returned (.int .i64 r) ∧ Below w.heap.size w w' := h ▸ checkanswer_any a vo w hv hn
theorem nodE_cases (m i : Int) (n : Nod) :
    (n.lf = true ∧ n.an < 0 ∧ nodE m i n = 2) ∨ (n.lf = true ∧ 0 ≤ n.an ∧ m ≤ n.an ∧ nodE m i n = 2) ∨
    (n.lf = true ∧ 0 ≤ n.an ∧ n.an < m ∧ n.bd ≠ 0 ∧ nodE m i n = 4) ∨ (n.lf = true ∧ 0 ≤ n.an ∧ n.an < m ∧ n.bd = 0 ∧ n.ls ≠ 0 ∧ nodE m i n = 4) ∨ (n.lf = true ∧ 0 ≤ n.an ∧ n.an < m ∧ n.bd = 0 ∧ n.ls = 0 ∧ n.mr ≠ 0 ∧ nodE m i n = 4) ∨
    (n.lf = true ∧ 0 ≤ n.an ∧ n.an < m ∧ n.bd = 0 ∧ n.ls = 0 ∧ n.mr = 0 ∧ nodE m i n = 0) ∨
    (n.lf = false ∧ n.an ≠ 0 ∧ nodE m i n = 4) ∨
    (n.lf = false ∧ n.an = 0 ∧ n.ls < 0 ∧ nodE m i n = 8) ∨ (n.lf = false ∧ n.an = 0 ∧ 0 ≤ n.ls ∧ i ≤ n.ls ∧ nodE m i n = 8) ∨
    (n.lf = false ∧ n.an = 0 ∧ 0 ≤ n.ls ∧ n.ls < i ∧ n.mr < 0 ∧ nodE m i n = 8) ∨ (n.lf = false ∧ n.an = 0 ∧ 0 ≤ n.ls ∧ n.ls < i ∧ 0 ≤ n.mr ∧ i ≤ n.mr ∧ nodE m i n = 8) ∨
    (n.lf = false ∧ n.an = 0 ∧ 0 ≤ n.ls ∧ n.ls < i ∧ 0 ≤ n.mr ∧ n.mr < i ∧ nodE m i n = 0) := by
  unfold nodE
  cases h : n.lf
  · simp only [Bool.false_eq_true, if_false, false_and, true_and, false_or]
    by_cases a1 : n.an = 0
    · rw [if_neg (by omega)]
      by_cases a2 : n.ls < 0 ∨ i ≤ n.ls ∨ n.mr < 0 ∨ i ≤ n.mr
      · rw [if_pos a2]; omega
      · rw [if_neg a2]; omega
    · rw [if_pos (by omega)]; omega
  · simp only [if_true, true_and]
    by_cases a1 : n.an < 0 ∨ m ≤ n.an
    · rw [if_pos a1]; omega
    · rw [if_neg a1]
      by_cases a2 : n.bd ≠ 0 ∨ n.ls ≠ 0 ∨ n.mr ≠ 0
      · rw [if_pos a2]; omega
      · rw [if_neg a2]; omega
set_option maxRecDepth 100000 in
set_option maxHeartbeats 4000000 in
theorem check_any (f : Frs) (vn va : Value) (w : World) (hf : FrsAt w vn va f) :
    Calls Tryd.prog 38 #[.agg #[vn, va]] w fun e w' => e = .returned (.int .i64 (frsE f)) ∧ Below w.heap.size w w' := by
  obtain ⟨nodes, answers⟩ := f
  obtain ⟨hn, ha⟩ := hf
  dsimp only at hn ha
  obtain ⟨an, cn, rfl, ln⟩ := hn.shape
  obtain ⟨aa, ca, rfl, la⟩ := ha.shape
  have ln' := maxLen_eq _ ln
  have la' := maxLen_eq _ la
  have HN := Lib.hid hn
  have HA := Lib.hid ha
  clear hn ha ln la
  by_cases h0 : nodes.length = 0
  · have hb : ((nodes.length : Int) == 0) = true := by simpa using h0
    have HE : Hid (frsE ⟨nodes, answers⟩ = 6) := by show frsE _ = 6; unfold frsE; rw [if_pos h0]
    clear h0
    go_enter Tryd.func38, Tryd.ntmps38
    go_wp2
    go_ret
    exact ⟨ret_int HE.out.symm, (Below.refl _ _).alloc (Nat.le_refl _) _⟩
  · have hb : ((nodes.length : Int) == 0) = false := by rw [beq_eq_false_iff_ne]; omega
    by_cases h1 : 8000 < nodes.length ∨ 2000 < answers.length
    · have HE : Hid (frsE ⟨nodes, answers⟩ = 1) := by show frsE _ = 1; unfold frsE; rw [if_neg h0, if_pos h1]
      have hx : 8000 < (nodes.length : Int) ∨ ((nodes.length : Int) ≤ 8000 ∧ 2000 < (answers.length : Int)) := by omega
      clear h0 h1
      rcases hx with hx | ⟨hx, hy⟩
      all_goals
        go_enter Tryd.func38, Tryd.ntmps38
        go_wp2
        go_ret
        exact ⟨ret_int HE.out.symm, (Below.refl _ _).alloc (Nat.le_refl _) _⟩
    · have hx : (nodes.length : Int) ≤ 8000 := by omega
      have hy : (answers.length : Int) ≤ 2000 := by omega
      have H0 := Lib.hid h0
      have H1 := Lib.hid h1
      clear h0 h1
      go_enter Tryd.func38, Tryd.ntmps38
      go_wp2
      have b0 : (w.alloc (.cells #[.slice an nodes.length cn, .slice aa answers.length ca] 64)).cell? ⟨w.heap.size, 0, none⟩ = some (.slice an nodes.length cn) := (World.cell?_alloc_at (w := w) _ _ w.heap.size 0 rfl).trans rfl
      have b1 : (w.alloc (.cells #[.slice an nodes.length cn, .slice aa answers.length ca] 64)).cell? ⟨w.heap.size, 1, none⟩ = some (.slice aa answers.length ca) := (World.cell?_alloc_at (w := w) _ _ w.heap.size 1 rfl).trans rfl
      have bz : w.heap.size < (w.alloc (.cells #[.slice an nodes.length cn, .slice aa answers.length ca] 64)).heap.size := by simp
      have bw : Below w.heap.size w (w.alloc (.cells #[.slice an nodes.length cn, .slice aa answers.length ca] 64)) := (Below.refl _ _).alloc (Nat.le_refl _) _
      generalize w.alloc (.cells #[.slice an nodes.length cn, .slice aa answers.length ca] 64) = W1 at *
      have HN1 := Lib.hid (HN.out.mono bw fun _ _ h => h)
      have HA1 := Lib.hid (HA.out.mono bw (RAns.mono bw))
      clear HN HA
      go_loopw [25] (fun t wr => ∃ k : Nat, k ≤ answers.length ∧ t = .int .i64 k ∧ Hid (∀ i (hi : i < answers.length), i < k → ansE answers[i] = 0) ∧ Below W1.heap.size W1 wr) (fun t _ => (answers.length - intOf t).toNat)
      case atStart => exact ⟨0, by omega, rfl, fun i _ h => by omega, Below.refl _ _⟩
      case round =>
        obtain ⟨k, hk, rfl, hz, hbr⟩ := hrel
        obtain ⟨hc, hf⟩ := bcell hbr
        by_cases hlt : k < answers.length
        · obtain ⟨b, off, vo, rfl, hbb, ⟨c0, c1, c2, c3, c4⟩, hvo, hnm, _, _⟩ := elemAns HA1.out k hlt
          obtain ⟨ao, co, rfl, lo⟩ := hvo.shape
          by_cases he : ansE answers[k] = 0
          · have hz' : Hid (∀ i (hi : i < answers.length), i < k + 1 → ansE answers[i] = 0) := fun i hi h => by
              by_cases e : i = k
              · subst e; exact he
              · exact hz.out i hi (by omega)
            have HV := Lib.hid (hvo.mono hbr fun _ _ h => h)
            have HM := Lib.hid hnm
            have HE := Lib.hid he
            clear he hvo hnm hz lo
            generalize answers[k] = x at *
            go_wp2_with fail
            refine (checkanswer_lit x _ 0 _ (HV.out.mono ((Below.refl _ _).alloc (Nat.le_refl _) _) fun _ _ h => h) HM.out HE.out).mono ?_; rintro e w2 ⟨rfl, hb2⟩
            go_wp2
            go_roundw
            case rel => exact ⟨k + 1, by omega, by go_num, hz', hbr.trans ((below_in hb2).mono hbr.size)⟩
            case measure => simp [intOf]; omega
          · have hb : (ansE answers[k] != 0) = true := by rw [bne_iff_ne]; exact he
            have HX : Hid (frsE ⟨nodes, answers⟩ = ansE answers[k]) := by
              have h2 : anssE answers = ansE answers[k] := by
                have := ferr_at (fun _ a => ansE a) answers 0 k hlt (fun i hi => hz.out i (by omega) hi) he
                exact this
              show frsE _ = _
              unfold frsE
              rw [if_neg H0.out, if_neg H1.out, if_pos (by rw [h2]; exact he), h2]
            have HV := Lib.hid (hvo.mono hbr fun _ _ h => h)
            have HM := Lib.hid hnm
            clear he hvo hnm hz lo
            generalize answers[k] = x at *
            go_wp2_with fail
            refine (checkanswer_any x _ _ (HV.out.mono ((Below.refl _ _).alloc (Nat.le_refl _) _) fun _ _ h => h) HM.out).mono ?_; rintro e w2 ⟨rfl, hb2⟩
            go_wp2
            go_ret
            exact ⟨ret_int HX.out.symm, bw.trans ((hbr.trans ((below_in hb2).mono hbr.size)).mono bw.size)⟩
        · have HS : Hid (anssE answers = 0) := by
            have := ferr_none (fun _ a => ansE a) answers 0 (fun i hi => hz.out i hi (by omega))
            exact this
          clear hz
          go_wp2_with fail
          have HN2 := Lib.hid (HN1.out.mono hbr fun _ _ h => h)
          clear HA1 HN1
          have hbr0 := bw.trans (hbr.mono bw.size)
          have e0 : wr.cell? ⟨w.heap.size, 0, none⟩ = some (.slice an nodes.length cn) := (hc _ _ bz).trans b0
          have e1 : wr.cell? ⟨w.heap.size, 1, none⟩ = some (.slice aa answers.length ca) := (hc _ _ bz).trans b1
          have ez : w.heap.size < wr.heap.size := Nat.lt_of_lt_of_le bz hbr.size
          clear hc hf b0 b1 bz bw hbr hk hlt
          go_wp2
          go_loopw [38] (fun t wq => ∃ k : Nat, k ≤ nodes.length ∧ t = .int .i64 k ∧ Hid (∀ i (hi : i < nodes.length), i < k → nodE answers.length (i : Nat) nodes[i] = 0) ∧ Below wr.heap.size wr wq) (fun t _ => (nodes.length - intOf t).toNat)
          case atStart => exact ⟨0, by omega, rfl, fun i _ h => by omega, Below.refl _ _⟩
          case round =>
            obtain ⟨k, hk, rfl, hz, hbq⟩ := hrel
            obtain ⟨hc, hf⟩ := bcell hbq
            have ezq := Nat.lt_of_lt_of_le ez hbq.size
            by_cases hlt : k < nodes.length
            · obtain ⟨b, off, rfl, hbb, c0, c1, c2, c3, c4⟩ := elemNod HN2.out k hlt
              have hbad : ∀ r : Int, r ≠ 0 → nodE answers.length (k : Nat) nodes[k] = r → frsE ⟨nodes, answers⟩ = r := fun r hr h => by
                have h2 : nodsE answers.length nodes = r := by
                  have := ferr_at (fun i n => nodE answers.length i n) nodes 0 k hlt (fun i hi => by simpa using hz.out i (by omega) hi) (by simpa [h] using hr)
                  simp only [Nat.zero_add] at this
                  exact this.trans h
                unfold frsE
                rw [if_neg H0.out, if_neg H1.out, if_neg (by rw [HS.out]; simp), h2]
              have hgood : nodE answers.length (k : Nat) nodes[k] = 0 → Hid (∀ i (hi : i < nodes.length), i < k + 1 → nodE answers.length (i : Nat) nodes[i] = 0) := fun h i hi h' => by
                by_cases e : i = k
                · subst e; exact h
                · exact hz.out i hi (by omega)
              have HB := Lib.hid hbad
              have HG := Lib.hid hgood
              have hcase := nodE_cases answers.length (k : Nat) nodes[k]
              clear hbad hgood hz
              generalize nodes[k] = nd at *
              obtain ⟨lf, nan, nbd, nls, nmr⟩ := nd
              dsimp only at c0 c1 c2 c3 c4 hcase
              rcases hcase with ⟨rfl, q1, hr⟩ | ⟨rfl, q1, q2, hr⟩ | ⟨rfl, q1, q2, q3, hr⟩ | ⟨rfl, q1, q2, rfl, q3, hr⟩ | ⟨rfl, q1, q2, rfl, rfl, q3, hr⟩ | ⟨rfl, q1, q2, rfl, rfl, rfl, hr⟩ | ⟨rfl, q3, hr⟩ | ⟨rfl, rfl, q1, hr⟩ | ⟨rfl, rfl, q1, q2, hr⟩ | ⟨rfl, rfl, q1, q2, q3, hr⟩ | ⟨rfl, rfl, q1, q2, q3, q4, hr⟩ | ⟨rfl, rfl, q1, q2, q3, q4, hr⟩
              · have HR := Lib.hid (HB.out 2 (by omega) hr)
                clear hr HB HG
                go_wp2
                go_ret
                exact ⟨ret_int HR.out.symm, (hbr0.trans (hbq.mono hbr0.size)).alloc (Nat.le_trans hbr0.size hbq.size) _⟩
              · have HR := Lib.hid (HB.out 2 (by omega) hr)
                clear hr HB HG
                go_wp2
                go_ret
                exact ⟨ret_int HR.out.symm, (hbr0.trans (hbq.mono hbr0.size)).alloc (Nat.le_trans hbr0.size hbq.size) _⟩
              · have t1 : (nbd != 0) = true := bne_iff_ne.2 q3
                clear q3
                have HR := Lib.hid (HB.out 4 (by omega) hr)
                clear hr HB HG
                go_wp2
                go_ret
                exact ⟨ret_int HR.out.symm, (hbr0.trans (hbq.mono hbr0.size)).alloc (Nat.le_trans hbr0.size hbq.size) _⟩
              · have t1 : (nls != 0) = true := bne_iff_ne.2 q3
                clear q3
                have HR := Lib.hid (HB.out 4 (by omega) hr)
                clear hr HB HG
                go_wp2
                go_ret
                exact ⟨ret_int HR.out.symm, (hbr0.trans (hbq.mono hbr0.size)).alloc (Nat.le_trans hbr0.size hbq.size) _⟩
              · have t1 : (nmr != 0) = true := bne_iff_ne.2 q3
                clear q3
                have HR := Lib.hid (HB.out 4 (by omega) hr)
                clear hr HB HG
                go_wp2
                go_ret
                exact ⟨ret_int HR.out.symm, (hbr0.trans (hbq.mono hbr0.size)).alloc (Nat.le_trans hbr0.size hbq.size) _⟩
              · have HZ := HG.out hr
                clear hr HB HG
                go_wp2
                go_roundw
                case rel => exact ⟨k + 1, by omega, by go_num, HZ, hbq.alloc hbq.size _⟩
                case measure => simp [intOf]; omega
              · have t1 : (nan != 0) = true := bne_iff_ne.2 q3
                clear q3
                have HR := Lib.hid (HB.out 4 (by omega) hr)
                clear hr HB HG
                go_wp2
                go_ret
                exact ⟨ret_int HR.out.symm, (hbr0.trans (hbq.mono hbr0.size)).alloc (Nat.le_trans hbr0.size hbq.size) _⟩
              · have HR := Lib.hid (HB.out 8 (by omega) hr)
                clear hr HB HG
                go_wp2
                go_ret
                exact ⟨ret_int HR.out.symm, (hbr0.trans (hbq.mono hbr0.size)).alloc (Nat.le_trans hbr0.size hbq.size) _⟩
              · have HR := Lib.hid (HB.out 8 (by omega) hr)
                clear hr HB HG
                go_wp2
                go_ret
                exact ⟨ret_int HR.out.symm, (hbr0.trans (hbq.mono hbr0.size)).alloc (Nat.le_trans hbr0.size hbq.size) _⟩
              · have HR := Lib.hid (HB.out 8 (by omega) hr)
                clear hr HB HG
                go_wp2
                go_ret
                exact ⟨ret_int HR.out.symm, (hbr0.trans (hbq.mono hbr0.size)).alloc (Nat.le_trans hbr0.size hbq.size) _⟩
              · have HR := Lib.hid (HB.out 8 (by omega) hr)
                clear hr HB HG
                go_wp2
                go_ret
                exact ⟨ret_int HR.out.symm, (hbr0.trans (hbq.mono hbr0.size)).alloc (Nat.le_trans hbr0.size hbq.size) _⟩
              · have HZ := HG.out hr
                clear hr HB HG
                go_wp2
                go_roundw
                case rel => exact ⟨k + 1, by omega, by go_num, HZ, hbq.alloc hbq.size _⟩
                case measure => simp [intOf]; omega
            · have HR : Hid (frsE ⟨nodes, answers⟩ = 0) := by
                have h2 : nodsE answers.length nodes = 0 := ferr_none (fun i n => nodE answers.length i n) nodes 0 (fun i hi => by simpa using hz.out i hi (by omega))
                show frsE _ = 0
                unfold frsE
                rw [if_neg H0.out, if_neg H1.out, if_neg (by rw [HS.out]; simp), h2]
              clear hz
              go_wp2
              go_ret
              exact ⟨ret_int HR.out.symm, hbr0.trans (hbq.mono hbr0.size)⟩
end Go.Proofs.YtlhidbbphngpcaaDoor
