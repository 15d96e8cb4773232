/-
  How a program runs that was verified: plain.
-/
import Derived.Test.YtpnmaopompfalaaCodD
import Derived.Test.YtpnmaopompfalaaCodF
namespace Go.Proofs.Ytpnmaopompfalaa
set_option linter.unusedVariables false
set_option linter.unusedSimpArgs false
open Go.ChangeShapes Go.WideShapes Go.ChangeAt Go.RowKit

/-- what is on the stack once stays: a place that is marked keeps its mark. -/
theorem vgo_keep {n a lg : Int} : ∀ {ts : List Int} {st st' : Vst}, vgo n a lg st ts = .inr st' → (∀ t ∈ ts, 0 ≤ t) → (st.dl.length : Int) = n → a + 1 ≠ 0 → ∀ j : Nat, gI st.dl j ≠ 0 → gI st'.dl j = gI st.dl j
  | [], st, st', h, _, _, _ => by
    unfold vgo at h
    obtain rfl := Sum.inr.inj h
    exact fun _ _ => rfl
  | t :: ts, st, st', h, h0, hd, ha => by
    unfold vgo at h
    split at h
    · cases h
    · rename_i c1
      split at h
      · cases h
      · rename_i c2
        have ht := h0 t List.mem_cons_self
        have ih := vgo_keep h (fun u hu => h0 u (List.mem_cons_of_mem _ hu)) (by show ((st.dl.set _ _).length : Int) = n; rw [List.length_set]; exact hd) ha
        have ed : ∀ j : Nat, gI (vone st a lg t).dl j = if t = j then a + 1 else gI st.dl j := fun j => gI_set _ _ ht (by omega) _ _
        intro j hj
        have h1 : gI (vone st a lg t).dl j = gI st.dl j := by
          rw [ed]
          by_cases e : t = j
          · rw [if_pos e]
            rw [e] at c2
            by_cases e2 : gI st.dl j = a + 1
            · exact e2.symm
            · exact absurd ⟨hj, e2⟩ c2
          · rw [if_neg e]
        rw [ih j (by rw [h1]; exact hj), h1]
/-- each marked place leads on to places that are marked. -/
def Leads (c : List Ins) (k : Nat) (dl : List Int) : Prop :=
  ∀ i : Nat, i < k → ∀ hi : i < c.length, gI dl i ≠ 0 → needI c[i].op ≤ gI dl i - 1 ∧ gI dl i - 1 + moreI c[i].op ≤ 8 ∧ ∀ t ∈ nextI i c[i], t < c.length ∧ gI dl t = gI dl i - 1 + moreI c[i].op + 1
theorem leads_step {c : List Ins} {k : Nat} {st st' : Vst} (hv : Vinv c k st) (h : Leads c k st.dl) (hk : k < c.length) (hn : ∀ x ∈ c, 0 ≤ x.n) (hs : vstep c.length k c[k] st = .inr st') : Leads c (k + 1) st'.dl := by
  unfold vstep at hs
  split at hs
  · rename_i h0
    obtain rfl := Sum.inr.inj hs
    intro i hi hil hne
    by_cases e : i = k
    · subst e; exact absurd h0 hne
    · exact h i (by omega) hil hne
  · rename_i h0
    split at hs
    · cases hs
    · rename_i hlim
      have hx := hn _ (List.getElem_mem hk)
      have hgt := nextI_gt (i := k) hx
      have hp : ∀ t ∈ nextI k c[k], 0 ≤ t := fun t ht => by have := hgt t ht; omega
      have ha : gI st.dl k - 1 + moreI c[k].op + 1 ≠ 0 := by
        have h1 : ¬ gI st.dl k - 1 < needI c[k].op := fun e => hlim (.inl e)
        have h2 := hv.dpos k
        unfold needI at h1
        unfold moreI
        split at h1 <;> split <;> (try split at h1) <;> (try split) <;> omega
      have hkeep := vgo_keep hs hp (by show ((st.dl.length : Nat) : Int) = _; rw [hv.dlen]) ha
      obtain ⟨_, _, _, _, g5, g6, g7, _, _⟩ := vgo_spec hs hp (by show ((st.dl.length : Nat) : Int) = _; rw [hv.dlen]) (by show ((st.ll.length : Nat) : Int) = _; rw [hv.llen])
      dsimp only at hkeep g5
      have hsame : ∀ i : Nat, i ≤ k → gI st'.dl i = gI st.dl i := fun i hi => g5 i (fun hm => by have := hgt _ hm; omega)
      intro i hi hil hne
      have hne' : gI st.dl i ≠ 0 := by rw [← hsame i (by omega)]; exact hne
      rw [hsame i (by omega)]
      by_cases e : i = k
      · subst e
        refine ⟨by omega, by omega, fun t ht => ⟨g6 t ht, ?_⟩⟩
        have h3 := hgt t ht
        obtain ⟨u, rfl⟩ : ∃ u : Nat, t = u := ⟨t.toNat, by omega⟩
        exact (g7 u ht).1
      · obtain ⟨q1, q2, q3⟩ := h i (by omega) hil hne'
        refine ⟨q1, q2, fun t ht => ?_⟩
        obtain ⟨r1, r2⟩ := q3 t ht
        refine ⟨r1, ?_⟩
        have h3 := nextI_gt (i := i) (hn _ (List.getElem_mem hil)) t ht
        obtain ⟨u, rfl⟩ : ∃ u : Nat, t = u := ⟨t.toNat, by omega⟩
        rw [hkeep u ?_, r2]
        rw [r2]
        have h1 := hv.dpos i
        have hneed : needI c[i].op ≤ gI st.dl i - 1 := q1
        unfold needI at hneed
        unfold moreI
        split at hneed <;> split <;> (try split at hneed) <;> (try split) <;> omega
theorem scan_all {c : List Ins} (hc : 0 < c.length) (hn : ∀ x ∈ c, 0 ≤ x.n) : ∀ (k : Nat) (st : Vst), k ≤ c.length → scan c k = .inr st → Vinv c k st ∧ Leads c k st.dl ∧ gI st.dl 0 = 1 := by
  intro k
  induction k with
  | zero =>
    intro st _ h
    obtain rfl := Sum.inr.inj h
    refine ⟨vinv_start c hc, fun i hi => by omega, ?_⟩
    exact (gI_one (c.length - 1) 0).trans (if_pos rfl)
  | succ k ih =>
    intro st hk h
    have hk' : k < c.length := by omega
    unfold scan at h
    rw [List.getElem?_eq_getElem hk'] at h
    dsimp only at h
    match hs : scan c k, h with
    | .inl e, h => exact absurd h (by simp [vnext])
    | .inr s0, h =>
      obtain ⟨i1, i2, i3⟩ := ih s0 (by omega) hs
      have h' : vstep c.length k c[k] s0 = .inr st := h
      refine ⟨vinv_step i1 hk' hn h', leads_step i1 i2 hk' hn h', ?_⟩
      have hgt := nextI_gt (i := k) (hn _ (List.getElem_mem hk'))
      unfold vstep at h'
      split at h'
      · obtain rfl := Sum.inr.inj h'; exact i3
      · split at h'
        · cases h'
        · obtain ⟨_, _, _, _, g5, _, _, _, _⟩ := vgo_spec h' (fun t ht => by have := hgt t ht; omega) (by show ((s0.dl.length : Nat) : Int) = _; rw [i1.dlen]) (by show ((s0.ll.length : Nat) : Int) = _; rw [i1.llen])
          rw [show (0 : Int) = ((0 : Nat) : Int) from rfl, g5 0 (fun hm => by have := hgt _ hm; omega)]
          exact i3
/-- a run: from place i, with l on the stack (its top last) and s steps done, it ends at answer a with k steps. -/
inductive Rn (p : Prg) (t : Int) : Nat → List Int → Int → Nat → Int → Prop
  | tell {i : Nat} {l : List Int} {s : Int} {a : Nat} (hi : i < p.code.length) (ho : p.code[i].op = 6) (hn : p.code[i].n = a) (ha : a < p.answers.length) (h8 : l.length ≤ 8) (hs : 0 ≤ s ∧ s ≤ i) : Rn p t i l s a (s + 1)
  | arg {i : Nat} {l : List Int} {s : Int} {a : Nat} {k : Int} (hi : i < p.code.length) (ho : p.code[i].op = 1) (h8 : l.length ≤ 8) (hs : 0 ≤ s ∧ s ≤ i) (h : Rn p t (i + 1) (l ++ [t]) (s + 1) a k) : Rn p t i l s a k
  | push {i : Nat} {l : List Int} {s : Int} {a : Nat} {k : Int} {m : Nat} (hi : i < p.code.length) (ho : p.code[i].op = 2) (hn : p.code[i].n = m) (hm : m < p.pool.length) (h8 : l.length ≤ 8) (hs : 0 ≤ s ∧ s ≤ i) (h : Rn p t (i + 1) (l ++ [p.pool[m]]) (s + 1) a k) : Rn p t i l s a k
  | less {i : Nat} {l : List Int} {s : Int} {a : Nat} {k : Int} {x y : Int} (hi : i < p.code.length) (ho : p.code[i].op = 3) (h8 : (l ++ [x, y]).length ≤ 8) (hs : 0 ≤ s ∧ s ≤ i) (h : Rn p t (i + 1) (l ++ [if x < y then 1 else 0]) (s + 1) a k) : Rn p t i (l ++ [x, y]) s a k
  | skip {i : Nat} {l : List Int} {s : Int} {a : Nat} {k : Int} {v : Int} {m : Nat} (hi : i < p.code.length) (ho : p.code[i].op = 4) (hn : p.code[i].n = m) (h8 : (l ++ [v]).length ≤ 8) (hs : 0 ≤ s ∧ s ≤ i) (h : Rn p t (if v = 0 then i + 1 + m else i + 1) l (s + 1) a k) : Rn p t i (l ++ [v]) s a k
  | go {i : Nat} {l : List Int} {s : Int} {a : Nat} {k : Int} {m : Nat} (hi : i < p.code.length) (ho : p.code[i].op = 5) (hn : p.code[i].n = m) (h8 : l.length ≤ 8) (hs : 0 ≤ s ∧ s ≤ i) (h : Rn p t (i + 1 + m) l (s + 1) a k) : Rn p t i l s a k
theorem last_two (l : List Int) (h : 2 ≤ l.length) : ∃ l' x y, l = l' ++ [x, y] := by
  refine ⟨l.take (l.length - 2), l[l.length - 2], l[l.length - 1], ?_⟩
  have h1 := List.take_append_drop (l.length - 2) l
  have h2 : l.drop (l.length - 2) = [l[l.length - 2], l[l.length - 1]] := by
    rw [List.drop_eq_getElem_cons (by omega), List.drop_eq_getElem_cons (by omega), List.drop_eq_nil_of_le (by omega)]
    congr 2
    congr 1
    omega
  rw [h2] at h1
  exact h1.symm
theorem last_one (l : List Int) (h : 1 ≤ l.length) : ∃ l' x, l = l' ++ [x] := by
  refine ⟨l.take (l.length - 1), l[l.length - 1], ?_⟩
  have h1 := List.take_append_drop (l.length - 1) l
  rw [List.drop_eq_getElem_cons (by omega), List.drop_eq_nil_of_le (by omega)] at h1
  exact h1.symm
theorem run_ex (p : Prg) (t : Int) (hg : prgE p = 0) {st : Vst} (hs : scan p.code p.code.length = .inr st) : ∀ (d i : Nat) (l : List Int) (s : Int), p.code.length - i = d → i < p.code.length → gI st.dl i = l.length + 1 → 0 ≤ s → s ≤ i → ∃ a k, Rn p t i l s a k ∧ a < p.answers.length ∧ 0 ≤ k ∧ k ≤ p.code.length := by
  obtain ⟨g0, g1, g2, g3, g4, g5⟩ := prg_good hg
  have hn : ∀ x ∈ p.code, 0 ≤ x.n := fun x hx => by
    obtain ⟨i, hi, rfl⟩ := List.mem_iff_getElem.1 hx
    exact (ins_n8 hg hi).2.1
  obtain ⟨i1, i2, i3⟩ := scan_all g0 hn _ _ (Nat.le_refl _) hs
  intro d
  induction d using Nat.strongRecOn with
  | _ d ih =>
    intro i l s hd hi hl h0 hsi
    obtain ⟨q1, q2, q3⟩ := i2 i hi hi (by omega)
    have hdl := i1.dle i
    have hs8 := i1.s8
    have h8 : l.length ≤ 8 := by omega
    have hgt := nextI_gt (i := i) (hn _ (List.getElem_mem hi))
    obtain ⟨hop, n0, n8⟩ := ins_n8 hg hi
    obtain ⟨_, _, hmost⟩ := ins_good (g5 i hi)
    obtain ⟨m1, m3, m2, m6, m4, m5⟩ := most_at p i p.code[i].op
    obtain ⟨m, hm⟩ : ∃ m : Nat, p.code[i].n = m := ⟨p.code[i].n.toNat, by omega⟩
    rcases hop with ho | ho | ho | ho | ho | ho
    · have hnx : nextI i p.code[i] = [(i : Int) + 1] := by unfold nextI; simp [ho]
      have hmo : moreI p.code[i].op = 1 := by rw [ho]; rfl
      rw [hnx, hmo] at q3
      obtain ⟨r1, r2⟩ := q3 _ List.mem_cons_self
      obtain ⟨a, k, h1, h2, h3⟩ := ih _ (by omega) (i + 1) (l ++ [t]) (s + 1) rfl (by omega) (by rw [List.length_append]; simp; simp at r2; omega) (by omega) (by omega)
      exact ⟨a, k, .arg hi ho h8 ⟨h0, hsi⟩ h1, h2, h3⟩
    · have hnx : nextI i p.code[i] = [(i : Int) + 1] := by unfold nextI; simp [ho]
      have hmo : moreI p.code[i].op = 1 := by rw [ho]; rfl
      rw [hnx, hmo] at q3
      obtain ⟨r1, r2⟩ := q3 _ List.mem_cons_self
      have hml : m < p.pool.length := by rw [m2 ho] at hmost; omega
      obtain ⟨a, k, h1, h2, h3⟩ := ih _ (by omega) (i + 1) (l ++ [p.pool[m]]) (s + 1) rfl (by omega) (by rw [List.length_append]; simp; simp at r2; omega) (by omega) (by omega)
      exact ⟨a, k, .push hi ho hm hml h8 ⟨h0, hsi⟩ h1, h2, h3⟩
    · have hnx : nextI i p.code[i] = [(i : Int) + 1] := by unfold nextI; simp [ho]
      have hmo : moreI p.code[i].op = -1 := by rw [ho]; rfl
      have hne : needI p.code[i].op = 2 := by rw [ho]; rfl
      rw [hnx, hmo] at q3
      rw [hne] at q1
      obtain ⟨r1, r2⟩ := q3 _ List.mem_cons_self
      obtain ⟨l', x, y, rfl⟩ := last_two l (by omega)
      rw [List.length_append] at hl
      simp at hl r2
      obtain ⟨a, k, h1, h2, h3⟩ := ih _ (by omega) (i + 1) (l' ++ [if x < y then 1 else 0]) (s + 1) rfl (by omega) (by rw [List.length_append]; simp; omega) (by omega) (by omega)
      exact ⟨a, k, .less hi ho h8 ⟨h0, hsi⟩ h1, h2, h3⟩
    · have hnx : nextI i p.code[i] = [(i : Int) + 1, (i : Int) + 1 + p.code[i].n] := by unfold nextI; simp [ho]
      have hmo : moreI p.code[i].op = -1 := by rw [ho]; rfl
      have hne : needI p.code[i].op = 1 := by rw [ho]; rfl
      rw [hnx, hmo] at q3
      rw [hne] at q1
      obtain ⟨r1, r2⟩ := q3 _ List.mem_cons_self
      obtain ⟨r3, r4⟩ := q3 _ (List.mem_cons_of_mem _ List.mem_cons_self)
      rw [hm] at r3 r4
      obtain ⟨l', v, rfl⟩ := last_one l (by omega)
      rw [List.length_append] at hl
      simp at hl r2
      obtain ⟨a, k, h1, h2, h3⟩ := ih (p.code.length - (if v = 0 then i + 1 + m else i + 1)) (by split <;> omega) (if v = 0 then i + 1 + m else i + 1) l' (s + 1) rfl (by split <;> omega) (by
        split
        · rw [show ((i + 1 + m : Nat) : Int) = (i : Int) + 1 + m from by omega, r4]; omega
        · rw [show ((i + 1 : Nat) : Int) = (i : Int) + 1 from by omega, r2]; omega) (by omega) (by split <;> omega)
      exact ⟨a, k, .skip hi ho hm h8 ⟨h0, hsi⟩ h1, h2, h3⟩
    · have hnx : nextI i p.code[i] = [(i : Int) + 1 + p.code[i].n] := by unfold nextI; simp [ho]
      have hmo : moreI p.code[i].op = 0 := by rw [ho]; rfl
      rw [hnx, hmo] at q3
      obtain ⟨r1, r2⟩ := q3 _ List.mem_cons_self
      rw [hm] at r1 r2
      obtain ⟨a, k, h1, h2, h3⟩ := ih (p.code.length - (i + 1 + m)) (by omega) (i + 1 + m) l (s + 1) rfl (by omega) (by rw [show ((i + 1 + m : Nat) : Int) = (i : Int) + 1 + m from by omega, r2]; omega) (by omega) (by omega)
      exact ⟨a, k, .go hi ho hm h8 ⟨h0, hsi⟩ h1, h2, h3⟩
    · have hml : m < p.answers.length := by rw [m6 ho] at hmost; omega
      exact ⟨m, s + 1, .tell hi ho hm hml h8 ⟨h0, hsi⟩, hml, by omega, by omega⟩
end Go.Proofs.Ytpnmaopompfalaa
