/-
  What is wrong with a program: code.check.
-/
import Derived.Test.YtlhidbbphngpcaaTreeC
import Derived.Test.YtlhidbbphngpcaaTreeT
namespace Go.Proofs.Ytlhidbbphngpcaa
set_option linter.unusedVariables false
set_option linter.unusedSimpArgs false
open Go.ChangeShapes Go.WideShapes Go.ChangeAt Go.RowKit

def mostI (p : Prg) (i op : Int) : Int := if op = 2 then p.pool.length - 1 else if op = 6 then p.answers.length - 1 else if op = 1 ∨ op = 3 then 0 else p.code.length - i - 2
def insE1 (p : Prg) (i : Nat) (x : Ins) : Int := if x.op < 1 ∨ 6 < x.op then 3 else if x.n < 0 ∨ mostI p i x.op < x.n then 2 else 0
/-- what is wrong with a program's parts. -/
def prgE (p : Prg) : Int :=
  if p.code.length = 0 then 6 else if 8000 < p.code.length ∨ 2000 < p.pool.length ∨ 2000 < p.answers.length then 1
  else if anssE p.answers ≠ 0 then anssE p.answers else ferr (insE1 p) 0 p.code
theorem insE1_kind (p : Prg) (i : Nat) (x : Ins) :
    (x.op < 1 ∧ insE1 p i x = 3) ∨ (1 ≤ x.op ∧ 6 < x.op ∧ insE1 p i x = 3) ∨
    ((x.op = 1 ∨ x.op = 2 ∨ x.op = 3 ∨ x.op = 4 ∨ x.op = 5 ∨ x.op = 6) ∧ ((x.n < 0 ∧ insE1 p i x = 2) ∨ (0 ≤ x.n ∧ mostI p i x.op < x.n ∧ insE1 p i x = 2) ∨ (0 ≤ x.n ∧ x.n ≤ mostI p i x.op ∧ insE1 p i x = 0))) := by
  by_cases a1 : x.op < 1
  · exact .inl ⟨a1, by unfold insE1; rw [if_pos (.inl a1)]⟩
  · by_cases a2 : 6 < x.op
    · exact .inr (.inl ⟨by omega, a2, by unfold insE1; rw [if_pos (.inr a2)]⟩)
    · refine .inr (.inr ⟨by omega, ?_⟩)
      have a3 : ¬ (x.op < 1 ∨ 6 < x.op) := fun h => h.elim a1 a2
      by_cases b1 : x.n < 0
      · exact .inl ⟨b1, by unfold insE1; rw [if_neg a3, if_pos (.inl b1)]⟩
      · by_cases b2 : mostI p i x.op < x.n
        · exact .inr (.inl ⟨by omega, b2, by unfold insE1; rw [if_neg a3, if_pos (.inr b2)]⟩)
        · exact .inr (.inr ⟨by omega, by omega, by unfold insE1; rw [if_neg a3, if_neg (fun h => h.elim b1 b2)]⟩)
theorem elemIns {w : World} {aa : Option Addr} {n ca : Nat} {xs : List Ins} (h : SlAt w 2 RIns (.slice aa n ca) xs) (k : Nat) (hk : k < xs.length) :
    ∃ b off, aa = some ⟨b, off, none⟩ ∧ b < w.heap.size ∧
      (w.cell? ⟨b, off + k * 2, none⟩ = some (.int .i64 xs[k].op) ∧ w.cell? ⟨b, off + k * 2 + 1, none⟩ = some (.int .i64 xs[k].n)) ∧ I64 xs[k].op ∧ I64 xs[k].n := by
  rcases h with ⟨a, cap, hv, rfl⟩ | ⟨b, off, cap, hv, h0, h1, h2, h3, h4⟩
  · simp at hk
  · obtain ⟨cs, _, ⟨rfl, r1, r2⟩, c3⟩ := h4 k hk
    simp only [Value.slice.injEq] at hv
    exact ⟨b, off, hv.1, h3, ⟨c3 0 (by omega), c3 1 (by omega)⟩, r1, r2⟩
def barB (op : Int) : Bool := op == 1 || op == 3
theorem bare_lit (op : Int) (r : Bool) (w : World) (hr : barB op = r) :
    Calls Try.prog 74 #[.int .i64 op] w fun e w' => e = .returned (.bool r) ∧ w = w' := by
  have H := Lib.hid hr.symm
  clear hr
  go_enter Try.func74, Try.ntmps74
  go_wp2
  all_goals (go_ret; exact ⟨ret_bool (by go_light; rw [H.out]; unfold barB; first | (simp [*]; done) | rfl | (simp [*]; omega)), rfl⟩)
theorem most_at (p : Prg) (i op : Int) : (op = 1 → mostI p i op = 0) ∧ (op = 3 → mostI p i op = 0) ∧ (op = 2 → mostI p i op = p.pool.length - 1) ∧ (op = 6 → mostI p i op = p.answers.length - 1) ∧ (op = 4 → mostI p i op = p.code.length - i - 2) ∧ (op = 5 → mostI p i op = p.code.length - i - 2) := by
  unfold mostI
  refine ⟨?_, ?_, ?_, ?_, ?_, ?_⟩ <;> (rintro rfl; simp)
set_option maxRecDepth 100000 in
set_option maxHeartbeats 4000000 in
theorem ccheck_any (p : Prg) (vc vp va : Value) (w : World) (hp : PrgAt w vc vp va p) :
    Calls Try.prog 59 #[.agg #[vc, vp, va]] w fun e w' => e = .returned (.int .i64 (prgE p)) ∧ Below w.heap.size w w' := by
  obtain ⟨hc, hq, ha⟩ := hp
  obtain ⟨ac, cc, rfl, lc⟩ := hc.shape
  obtain ⟨aq, cq, rfl, lq⟩ := hq.shape
  obtain ⟨aa, ca, rfl, la⟩ := ha.shape
  have lc' := maxLen_eq _ lc
  have lq' := maxLen_eq _ lq
  have la' := maxLen_eq _ la
  have HC := Lib.hid hc
  have HA := Lib.hid ha
  clear hc hq ha lc lq la
  by_cases h0 : p.code.length = 0
  · have hb : ((p.code.length : Int) == 0) = true := by simpa using h0
    have HE : Hid (prgE p = 6) := by show prgE _ = 6; unfold prgE; rw [if_pos h0]
    clear h0
    go_enter Try.func59, Try.ntmps59
    go_wp2
    go_ret
    exact ⟨ret_int HE.out.symm, (Below.refl _ _).alloc (Nat.le_refl _) _⟩
  · have hb : ((p.code.length : Int) == 0) = false := by rw [beq_eq_false_iff_ne]; omega
    by_cases h1 : 8000 < p.code.length ∨ 2000 < p.pool.length ∨ 2000 < p.answers.length
    · have HE : Hid (prgE p = 1) := by show prgE _ = 1; unfold prgE; rw [if_neg h0, if_pos h1]
      have hx : 8000 < (p.code.length : Int) ∨ ((p.code.length : Int) ≤ 8000 ∧ 2000 < (p.pool.length : Int)) ∨ ((p.code.length : Int) ≤ 8000 ∧ (p.pool.length : Int) ≤ 2000 ∧ 2000 < (p.answers.length : Int)) := by omega
      clear h0 h1
      rcases hx with hx | ⟨hx, hy⟩ | ⟨hx, hy, hz⟩
      all_goals
        go_enter Try.func59, Try.ntmps59
        go_wp2
        go_ret
        exact ⟨ret_int HE.out.symm, (Below.refl _ _).alloc (Nat.le_refl _) _⟩
    · have hx : (p.code.length : Int) ≤ 8000 := by omega
      have hy : (p.pool.length : Int) ≤ 2000 := by omega
      have hz : (p.answers.length : Int) ≤ 2000 := by omega
      have H0 := Lib.hid h0
      have H1 := Lib.hid h1
      clear h0 h1
      go_enter Try.func59, Try.ntmps59
      go_wp2
      have b0 : (w.alloc (.cells #[.slice ac p.code.length cc, .slice aq p.pool.length cq, .slice aa p.answers.length ca] 68)).cell? ⟨w.heap.size, 0, none⟩ = some (.slice ac p.code.length cc) := (World.cell?_alloc_at (w := w) _ _ w.heap.size 0 rfl).trans rfl
      have b1 : (w.alloc (.cells #[.slice ac p.code.length cc, .slice aq p.pool.length cq, .slice aa p.answers.length ca] 68)).cell? ⟨w.heap.size, 1, none⟩ = some (.slice aq p.pool.length cq) := (World.cell?_alloc_at (w := w) _ _ w.heap.size 1 rfl).trans rfl
      have b2 : (w.alloc (.cells #[.slice ac p.code.length cc, .slice aq p.pool.length cq, .slice aa p.answers.length ca] 68)).cell? ⟨w.heap.size, 2, none⟩ = some (.slice aa p.answers.length ca) := (World.cell?_alloc_at (w := w) _ _ w.heap.size 2 rfl).trans rfl
      have bz : w.heap.size < (w.alloc (.cells #[.slice ac p.code.length cc, .slice aq p.pool.length cq, .slice aa p.answers.length ca] 68)).heap.size := by simp
      have bw : Below w.heap.size w (w.alloc (.cells #[.slice ac p.code.length cc, .slice aq p.pool.length cq, .slice aa p.answers.length ca] 68)) := (Below.refl _ _).alloc (Nat.le_refl _) _
      generalize w.alloc (.cells #[.slice ac p.code.length cc, .slice aq p.pool.length cq, .slice aa p.answers.length ca] 68) = W1 at *
      have HC1 := Lib.hid (HC.out.mono bw fun _ _ h => h)
      have HA1 := Lib.hid (HA.out.mono bw (RAns.mono bw))
      clear HC HA
      go_loopw [32] (fun t wr => ∃ k : Nat, k ≤ p.answers.length ∧ t = .int .i64 k ∧ Hid (∀ i (hi : i < p.answers.length), i < k → ansE p.answers[i] = 0) ∧ Below W1.heap.size W1 wr) (fun t _ => (p.answers.length - intOf t).toNat)
      case atStart => exact ⟨0, by omega, rfl, fun i _ h => by omega, Below.refl _ _⟩
      case round =>
        obtain ⟨k, hk, rfl, hz', hbr⟩ := hrel
        obtain ⟨hc, hf⟩ := bcell hbr
        by_cases hlt : k < p.answers.length
        · obtain ⟨b, off, vo, rfl, hbb, ⟨c0, c1, c2, c3, c4⟩, hvo, hnm, _, _⟩ := elemAns HA1.out k hlt
          obtain ⟨ao, co, rfl, lo⟩ := hvo.shape
          have d0 := (hc _ (off + k * 5) hbb).trans c0
          have d1 := (hc _ (off + k * 5 + 1) hbb).trans c1
          have d2 := (hc _ (off + k * 5 + 2) hbb).trans c2
          have d3 := (hc _ (off + k * 5 + 3) hbb).trans c3
          have d4 := (hc _ (off + k * 5 + 4) hbb).trans c4
          have hbx := (Below.refl wr.heap.size wr).alloc (Nat.le_refl _) (.cells #[.int .i64 p.answers[k].ck.off, .bool p.answers[k].ck.sav, .string p.answers[k].ck.nm, .slice ao p.answers[k].offs.length co, .int .i64 p.answers[k].jump] 39)
          have HV := Lib.hid ((hvo.mono hbr fun _ _ h => h).mono hbx fun _ _ h => h)
          have hB2 := hbr.trans (hbx.mono hbr.size)
          have HM := Lib.hid hnm
          by_cases he : ansE p.answers[k] = 0
          · have hz2 : Hid (∀ i (hi : i < p.answers.length), i < k + 1 → ansE p.answers[i] = 0) := fun i hi h => by
              by_cases e : i = k
              · subst e; exact he
              · exact hz'.out i hi (by omega)
            have HE := Lib.hid he
            clear he hvo hnm hz' lo c0 c1 c2 c3 c4 hc hf hbx
            generalize p.answers[k] = x at *
            go_wp2_with fail
            refine (checkanswer_lit x _ 0 _ HV.out HM.out HE.out).mono ?_; rintro e w2 ⟨rfl, hb2⟩
            go_wp2
            go_roundw
            case rel => exact ⟨k + 1, by omega, by go_num, hz2, hB2.trans (hb2.mono hB2.size)⟩
            case measure => simp [intOf]; omega
          · have hb : (ansE p.answers[k] != 0) = true := by rw [bne_iff_ne]; exact he
            have HX : Hid (prgE p = ansE p.answers[k]) := by
              have h2 : anssE p.answers = ansE p.answers[k] := by
                have := ferr_at (fun _ a => ansE a) p.answers 0 k hlt (fun i hi => hz'.out i (by omega) hi) he
                exact this
              show prgE _ = _
              unfold prgE
              rw [if_neg H0.out, if_neg H1.out, if_pos (by rw [h2]; exact he), h2]
            clear he hvo hnm hz' lo c0 c1 c2 c3 c4 hc hf hbx
            generalize p.answers[k] = x at *
            go_wp2_with fail
            refine (checkanswer_lit x _ _ _ HV.out HM.out rfl).mono ?_; rintro e w2 ⟨rfl, hb2⟩
            go_wp2
            go_ret
            exact ⟨ret_int HX.out.symm, bw.trans ((hB2.trans (hb2.mono hB2.size)).mono bw.size)⟩
        · have HS : Hid (anssE p.answers = 0) := ferr_none (fun _ a => ansE a) p.answers 0 (fun i hi => hz'.out i hi (by omega))
          have e0 : wr.cell? ⟨w.heap.size, 0, none⟩ = some (.slice ac p.code.length cc) := (hc _ _ bz).trans b0
          have e1 : wr.cell? ⟨w.heap.size, 1, none⟩ = some (.slice aq p.pool.length cq) := (hc _ _ bz).trans b1
          have e2 : wr.cell? ⟨w.heap.size, 2, none⟩ = some (.slice aa p.answers.length ca) := (hc _ _ bz).trans b2
          have ez : w.heap.size < wr.heap.size := Nat.lt_of_lt_of_le bz hbr.size
          have HC2 := Lib.hid (HC1.out.mono hbr fun _ _ h => h)
          have hbr0 := bw.trans (hbr.mono bw.size)
          clear hz' hc hf b0 b1 b2 bz bw hbr HA1 HC1
          go_wp2
          obtain ⟨wo, rfl⟩ : ∃ wo : World, wo = wr := ⟨_, rfl⟩
          go_loopw [45] (fun t wq => ∃ k : Nat, k ≤ p.code.length ∧ t = .int .i64 k ∧ Hid (∀ i (hi : i < p.code.length), i < k → insE1 p i p.code[i] = 0) ∧ Below wo.heap.size wo wq) (fun t _ => (p.code.length - intOf t).toNat)
          case atStart => exact ⟨0, by omega, rfl, fun i _ h => by omega, Below.refl _ _⟩
          case round =>
            obtain ⟨k, hk, rfl, hz', hbq⟩ := hrel
            obtain ⟨hc, hf⟩ := bcell hbq
            have ezq := Nat.lt_of_lt_of_le ez hbq.size
            have g0 : wr.cell? ⟨w.heap.size, 0, none⟩ = some (.slice ac p.code.length cc) := (hc _ _ ez).trans e0
            have g1 : wr.cell? ⟨w.heap.size, 1, none⟩ = some (.slice aq p.pool.length cq) := (hc _ _ ez).trans e1
            have g2 : wr.cell? ⟨w.heap.size, 2, none⟩ = some (.slice aa p.answers.length ca) := (hc _ _ ez).trans e2
            by_cases hlt : k < p.code.length
            · obtain ⟨b, off, rfl, hbb, ⟨c0, c1⟩, _, _⟩ := elemIns HC2.out k hlt
              have d0 := (hc _ (off + k * 2) hbb).trans c0
              have d1 := (hc _ (off + k * 2 + 1) hbb).trans c1
              have hbad : Hid (∀ r : Int, r ≠ 0 → insE1 p k p.code[k] = r → prgE p = r) := fun r hr h => by
                have h2 : ferr (insE1 p) 0 p.code = r := by
                  have := ferr_at (insE1 p) p.code 0 k hlt (fun i hi => by simpa using hz'.out i (by omega) hi) (by simpa [h] using hr)
                  simp only [Nat.zero_add] at this
                  exact this.trans h
                unfold prgE
                rw [if_neg H0.out, if_neg H1.out, if_neg (by rw [HS.out]; simp), h2]
              have hgood : Hid (insE1 p k p.code[k] = 0 → Hid (∀ i (hi : i < p.code.length), i < k + 1 → insE1 p i p.code[i] = 0)) := fun h i hi h' => by
                by_cases e : i = k
                · subst e; exact h
                · exact hz'.out i hi (by omega)
              have hkind := insE1_kind p k p.code[k]
              have hm := most_at p k p.code[k].op
              have hbr2 : Below w.heap.size w (wr.alloc (.cells #[.int .i64 p.code[k].op, .int .i64 p.code[k].n] 102)) := (hbr0.trans (hbq.mono hbr0.size)).alloc (Nat.le_trans hbr0.size hbq.size) _
              have hbq2 := hbq.alloc hbq.size (.cells #[.int .i64 p.code[k].op, .int .i64 p.code[k].n] 102)
              have hk8 : (k : Int) < 8000 := by omega
              clear hc hf c0 c1 hz' e0 e1 e2 hbr0 hbq
              generalize p.code[k] = x at *
              obtain ⟨op, n⟩ := x
              dsimp only at d0 d1 hkind hm hbr2 hbq2
              generalize mostI p k op = m at *
              rcases hkind with ⟨q, hr⟩ | ⟨q1, q2, hr⟩ | ⟨hop, hcase⟩
              · have HR := Lib.hid (hbad.out _ (by omega) hr)
                clear hr hm
                go_wp2
                go_ret
                exact ⟨ret_int HR.out.symm, hbr2⟩
              · have HR := Lib.hid (hbad.out _ (by omega) hr)
                clear hr hm
                go_wp2
                go_ret
                exact ⟨ret_int HR.out.symm, hbr2⟩
              · rcases hop with rfl | rfl | rfl | rfl | rfl | rfl
                all_goals
                  obtain ⟨m1, m3, m2, m6, m4, m5⟩ := hm
                  first | obtain rfl := m1 rfl | obtain rfl := m2 rfl | obtain rfl := m3 rfl | obtain rfl := m4 rfl | obtain rfl := m5 rfl | obtain rfl := m6 rfl
                  clear m1 m2 m3 m4 m5 m6
                  rcases hcase with ⟨q, hr⟩ | ⟨q0, q, hr⟩ | ⟨q0, q, hr⟩
                  · have HR := Lib.hid (hbad.out _ (by omega) hr)
                    clear hr
                    go_wp2_with (go_at_call 74; refine (bare_lit _ _ _ rfl).mono ?_; rintro e w' ⟨rfl, rfl⟩)
                    go_ret
                    exact ⟨ret_int HR.out.symm, hbr2⟩
                  · have HR := Lib.hid (hbad.out _ (by omega) hr)
                    clear hr
                    go_wp2_with (go_at_call 74; refine (bare_lit _ _ _ rfl).mono ?_; rintro e w' ⟨rfl, rfl⟩)
                    go_ret
                    exact ⟨ret_int HR.out.symm, hbr2⟩
                  · have HR := hgood.out hr
                    clear hr
                    go_wp2_with (go_at_call 74; refine (bare_lit _ _ _ rfl).mono ?_; rintro e w' ⟨rfl, rfl⟩)
                    go_roundw
                    case rel => exact ⟨k + 1, by omega, by go_num, HR, hbq2⟩
                    case measure => simp [intOf]; omega
            · have HS2 : Hid (prgE p = 0) := by
                show prgE p = 0
                unfold prgE
                rw [if_neg H0.out, if_neg H1.out, if_neg (by rw [HS.out]; simp)]
                exact ferr_none (insE1 p) p.code 0 (fun i hi => by simpa using hz'.out i hi (by omega))
              clear hz' hc hf
              have hbr2 := hbr0.trans (hbq.mono hbr0.size)
              go_wp2
              go_ret
              exact ⟨ret_int HS2.out.symm, hbr2⟩
end Go.Proofs.Ytlhidbbphngpcaa
