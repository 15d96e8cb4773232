/-
  How a program is verified: what holds behind each instruction.
-/
import Derived.Test.YtpnmaopompfalaaCodC
namespace Go.Proofs.Ytpnmaopompfalaa
set_option linter.unusedVariables false
set_option linter.unusedSimpArgs false
open Go.ChangeShapes Go.WideShapes Go.ChangeAt Go.RowKit

theorem gI_set (l : List Int) (t : Int) (ht : 0 ≤ t) (hl : t < l.length) (v : Int) (j : Nat) : gI (l.set t.toNat v) j = if t = j then v else gI l j := by
  unfold gI
  rw [Int.toNat_natCast, getD_set_]
  by_cases e : t = j
  · rw [if_pos e, if_pos ⟨by omega, by omega⟩]
  · rw [if_neg e, if_neg (fun h => e (by have := h.1; omega))]
theorem vgo_spec {n a lg : Int} : ∀ {ts : List Int} {st st' : Vst}, vgo n a lg st ts = .inr st' → (∀ t ∈ ts, 0 ≤ t) → (st.dl.length : Int) = n → (st.ll.length : Int) = n →
    st'.stack = st.stack ∧ st'.steps = st.steps ∧ st'.dl.length = st.dl.length ∧ st'.ll.length = st.ll.length ∧
    (∀ j : Nat, (j : Int) ∉ ts → gI st'.dl j = gI st.dl j) ∧ (∀ t ∈ ts, t < n) ∧ (∀ j : Nat, (j : Int) ∈ ts → gI st'.dl j = a + 1 ∧ lg + 1 ≤ gI st'.ll j) ∧
    (∀ j : Nat, gI st'.ll j = gI st.ll j ∨ (gI st'.ll j = lg + 1 ∧ (j : Int) ∈ ts)) ∧ (∀ j : Nat, gI st.ll j ≤ gI st'.ll j)
  | [], st, st', h, _, _, _ => by
    unfold vgo at h
    obtain rfl := Sum.inr.inj h
    exact ⟨rfl, rfl, rfl, rfl, fun _ _ => rfl, fun t ht => by simp at ht, fun j hj => by simp at hj, fun j => .inl rfl, fun j => Int.le_refl _⟩
  | t :: ts, st, st', h, h0, hd, hl => by
    unfold vgo at h
    split at h
    · cases h
    · rename_i c1
      split at h
      · cases h
      · rename_i c2
        have ht := h0 t List.mem_cons_self
        have ih := vgo_spec h (fun u hu => h0 u (List.mem_cons_of_mem _ hu)) (by show ((st.dl.set _ _).length : Int) = n; rw [List.length_set]; exact hd) (by show ((st.ll.set _ _).length : Int) = n; rw [List.length_set]; exact hl)
        obtain ⟨g1, g2, g3, g4, g5, g6, g7, g8, g9⟩ := ih
        have ed : ∀ j : Nat, gI (vone st a lg t).dl j = if t = j then a + 1 else gI st.dl j := fun j => gI_set _ _ ht (by omega) _ _
        have el : ∀ j : Nat, gI (vone st a lg t).ll j = if t = j then (if gI st.ll t < lg + 1 then lg + 1 else gI st.ll t) else gI st.ll j := fun j => gI_set _ _ ht (by omega) _ _
        refine ⟨g1, g2, by rw [g3]; show (st.dl.set _ _).length = _; rw [List.length_set], by rw [g4]; show (st.ll.set _ _).length = _; rw [List.length_set], fun j hj => ?_, fun u hu => ?_, fun j hj => ?_, fun j => ?_, fun j => ?_⟩
        · have hj' : ¬ (j : Int) = t ∧ ¬ (j : Int) ∈ ts := ⟨fun e => hj (e ▸ List.mem_cons_self), fun e => hj (List.mem_cons_of_mem _ e)⟩
          rw [g5 j hj'.2, ed, if_neg (fun e => hj'.1 e.symm)]
        · rcases List.mem_cons.1 hu with rfl | hu
          · omega
          · exact g6 u hu
        · by_cases hm : (j : Int) ∈ ts
          · exact g7 j hm
          · have e : (j : Int) = t := by
              rcases List.mem_cons.1 hj with e | e
              · exact e
              · exact absurd e hm
            refine ⟨by rw [g5 j hm, ed, if_pos e.symm], ?_⟩
            have := g9 j
            rw [el, if_pos e.symm] at this
            split at this <;> omega
        · rcases g8 j with h1 | h1
          · rw [h1, el]
            by_cases e : t = j
            · rw [if_pos e]
              split
              · exact .inr ⟨rfl, by rw [← e]; exact List.mem_cons_self⟩
              · exact .inl (by rw [e])
            · rw [if_neg e]; exact .inl rfl
          · exact .inr ⟨h1.1, List.mem_cons_of_mem _ h1.2⟩
        · have := g9 j
          rw [el] at this
          by_cases e : t = j
          · rw [if_pos e] at this
            rw [e] at this
            split at this <;> omega
          · rw [if_neg e] at this; exact this
theorem vinv_skip {c : List Ins} {k : Nat} {st : Vst} (h : Vinv c k st) (h0 : gI st.dl k = 0) : Vinv c (k + 1) st := by
  refine { h with wit := ?_ }
  rcases h.wit with w | ⟨j, h1, h2, h3, h4⟩
  · exact .inl w
  · refine .inr ⟨j, ?_, h2, h3, h4⟩
    by_cases e : j = k
    · subst e; exact absurd h0 h3
    · omega
theorem vinv_step {c : List Ins} {k : Nat} {st st' : Vst} (h : Vinv c k st) (hk : k < c.length) (hn : ∀ x ∈ c, 0 ≤ x.n) (hs : vstep c.length k c[k] st = .inr st') : Vinv c (k + 1) st' := by
  unfold vstep at hs
  split at hs
  · rename_i h0
    obtain rfl := Sum.inr.inj hs
    exact vinv_skip h h0
  · rename_i h0
    split at hs
    · cases hs
    · rename_i hlim
      have hx := hn _ (List.getElem_mem hk)
      generalize hx' : c[k] = x at *
      obtain ⟨a, ha⟩ : ∃ a, a = gI st.dl k - 1 + moreI x.op := ⟨_, rfl⟩
      rw [← ha] at hs
      have hgt := nextI_gt (i := k) hx
      obtain ⟨g1, g2, g3, g4, g5, g6, g7, g8, g9⟩ := vgo_spec hs (fun t ht => by have := hgt t ht; omega) (by show ((st.dl.length : Nat) : Int) = _; rw [h.dlen]) (by show ((st.ll.length : Nat) : Int) = _; rw [h.llen])
      dsimp only at g1 g2 g3 g4 g5 g8 g9
      have hS := sl_at c k hk hn
      rw [hx'] at hS
      obtain ⟨b1, b2, b3⟩ := best_ge (sl c c.length) c.length (nextI k x) 0
      have hlk := h.lpos k h0
      have hlle := h.lle k hk h0
      have hdk := h.dpos k
      have hdle := h.dle k
      have hstk := mx_ge st.stack a
      have hstp := mx_ge st.steps (gI st.ll k)
      have ha0 : 0 ≤ a := by
        have hneed : ¬ gI st.dl k - 1 < needI x.op := fun e => hlim (.inl e)
        rw [ha]
        unfold needI at hneed
        unfold moreI
        split at hneed <;> split <;> (try split at hneed) <;> (try split) <;> omega
      have ha8 : a ≤ 8 := by have : ¬ 8 < gI st.dl k - 1 + moreI x.op := fun e => hlim (.inr e); omega
      have hs0 := h.s0
      have hs8 := h.s8
      have ht0 := h.t0
      have htle := h.tle
      refine ⟨by rw [g3]; exact h.dlen, by rw [g4]; exact h.llen, fun j => ?_, fun j => ?_, ?_, ?_, fun j hj => ?_, fun j hj => ?_, fun j hj hr => ?_, ?_, ?_, ?_⟩
      · by_cases hm : (j : Int) ∈ nextI k x
        · have := (g7 j hm).1; omega
        · rw [g5 j hm]; exact h.dpos j
      · rw [g1]
        by_cases hm : (j : Int) ∈ nextI k x
        · have := (g7 j hm).1; omega
        · rw [g5 j hm]; have := h.dle j; omega
      · rw [g1]; omega
      · rw [g1]; omega
      · by_cases hm : (j : Int) ∈ nextI k x
        · have := (g7 j hm).1; omega
        · rw [g5 j hm] at hj
          rcases g8 j with e | e
          · rw [e]; exact h.lzero j hj
          · exact absurd e.2 hm
      · have g9j := g9 j
        by_cases hm : (j : Int) ∈ nextI k x
        · have := (g7 j hm).2; omega
        · rw [g5 j hm] at hj
          have := h.lpos j hj; omega
      · rcases g8 j with e | e
        · rw [e]
          by_cases hm : (j : Int) ∈ nextI k x
          · by_cases h00 : gI st.dl j = 0
            · have e2 := h.lzero j h00
              have := (g7 j hm).2
              omega
            · exact h.lle j hj h00
          · rw [g5 j hm] at hr; exact h.lle j hj hr
        · have hb := b2 _ e.2 (by omega)
          rw [e.1]; omega
      · rw [g2]
        have hb0 : 0 ≤ best (sl c c.length) c.length (nextI k x) 0 := b1
        omega
      · rw [g2]; omega
      · rw [g2]
        rcases h.wit with w | ⟨j, j1, j2, j3, j4⟩
        · left
          have hb0 : 0 ≤ best (sl c c.length) c.length (nextI k x) 0 := b1
          omega
        · by_cases e : j = k
          · subst e
            rcases b3 with b3 | ⟨t, ht, hl, b3⟩
            · left; omega
            · right
              have h5 := hgt t ht
              obtain ⟨u, rfl⟩ : ∃ u : Nat, t = u := ⟨t.toNat, by omega⟩
              refine ⟨u, by omega, by omega, ?_, ?_⟩
              · have := (g7 u ht).1; omega
              · have := (g7 u ht).2; omega
          · right
            refine ⟨j, by omega, j2, ?_, ?_⟩
            · by_cases hm : (j : Int) ∈ nextI k x
              · have := (g7 j hm).1; omega
              · rw [g5 j hm]; exact j3
            · have := g9 j; omega
/-- the longest way that was found is the one that is reckoned from the end. -/
theorem vinv_end {c : List Ins} {st : Vst} (h : Vinv c c.length st) : st.steps = gI (sl c c.length) 0 := by
  rcases h.wit with w | ⟨j, j1, j2, _⟩
  · exact w
  · omega
theorem sl_bd (c : List Ins) : ∀ (k j : Nat), 0 ≤ gI (sl c k) j ∧ gI (sl c k) j ≤ k := by
  intro k
  induction k with
  | zero =>
    intro j
    unfold sl gI
    rw [Int.toNat_natCast, List.getD_eq_getElem?_getD, List.getElem?_replicate]
    split <;> simp
  | succ k ih =>
    intro j
    rw [sl_succ]
    split
    · have := ih j; omega
    · rename_i x hx
      unfold gI
      rw [Int.toNat_natCast, getD_set_]
      split
      · obtain ⟨b1, b2, b3⟩ := best_ge (sl c k) c.length (nextI (c.length - 1 - k) x) 0
        rcases b3 with b3 | ⟨t, _, _, b3⟩
        · omega
        · have := ih t.toNat
          rw [b3]
          unfold gI at this ⊢
          rw [Int.toNat_natCast] at this
          omega
      · have := ih j
        unfold gI at this
        rw [Int.toNat_natCast] at this
        omega
theorem sl_zero (c : List Ins) : ∀ (k j : Nat), j + k < c.length → gI (sl c k) j = 0 := by
  intro k
  induction k with
  | zero =>
    intro j _
    unfold sl gI
    rw [Int.toNat_natCast, List.getD_eq_getElem?_getD, List.getElem?_replicate]
    split <;> simp
  | succ k ih =>
    intro j h
    have ih' := ih j (by omega)
    rw [sl_succ]
    split
    · exact ih'
    · unfold gI at ih' ⊢
      rw [Int.toNat_natCast] at ih' ⊢
      rw [getD_set_, if_neg (fun e => by have := e.1; omega)]
      exact ih'
theorem sl_self (c : List Ins) (k j : Nat) (h : j + k < c.length) : (sl c k).set j 0 = sl c k := by
  have hz := sl_zero c k j h
  have hl : j < (sl c k).length := by rw [sl_len]; omega
  unfold gI at hz
  rw [Int.toNat_natCast, List.getD_eq_getElem?_getD, List.getElem?_eq_getElem hl] at hz
  have hz' : (sl c k)[j] = 0 := hz
  rw [← hz']
  exact List.set_getElem_self hl
theorem sl_done (c : List Ins) (k : Nat) (h : k < c.length) (x : Ins) (hx : c[c.length - 1 - k]? = some x) (v : Int) (hv : best (sl c k) c.length (nextI (c.length - 1 - k) x) 0 = v) : (sl c k).set (c.length - 1 - k) (v + 1) = sl c (k + 1) := by
  rw [sl_succ, hx, ← hv]
theorem best_cons (s : List Int) (n t m : Int) (ts : List Int) : best s n (t :: ts) m = best s n ts (if t < n then mx m (gI s t) else m) := rfl
theorem best_nil (s : List Int) (n m : Int) : best s n [] m = m := rfl
end Go.Proofs.Ytpnmaopompfalaa
