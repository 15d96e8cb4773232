/-
  How a program is verified: the plain part.
  How a program is verified: what holds behind each instruction.
-/
import Derived.Test.YtlhidbbphngpcaaDoorBase
namespace Go.Proofs.YtlhidbbphngpcaaDoor
set_option linter.unusedVariables false
set_option linter.unusedSimpArgs false
open Go.ChangeShapes Go.WideShapes Go.ChangeAt Go.RowKit

structure Vst where
  dl : List Int
  ll : List Int
  stack : Int
  steps : Int
def needI (op : Int) : Int := if op = 3 then 2 else if op = 4 then 1 else 0
def moreI (op : Int) : Int := if op = 1 ∨ op = 2 then 1 else if op = 3 ∨ op = 4 then -1 else 0
def nextI (i : Nat) (x : Ins) : List Int := if x.op = 6 then [] else if x.op = 5 then [(i : Int) + 1 + x.n] else if x.op = 4 then [(i : Int) + 1, (i : Int) + 1 + x.n] else [(i : Int) + 1]
def gI (l : List Int) (t : Int) : Int := l.getD t.toNat 0
def vone (st : Vst) (a lg t : Int) : Vst := ⟨st.dl.set t.toNat (a + 1), st.ll.set t.toNat (if gI st.ll t < lg + 1 then lg + 1 else gI st.ll t), st.stack, st.steps⟩
/-- where an instruction may go on: marked, or what is wrong. -/
def vgo (n a lg : Int) : Vst → List Int → Int ⊕ Vst
  | st, [] => .inr st
  | st, t :: ts => if n ≤ t then .inl 5 else if gI st.dl t ≠ 0 ∧ gI st.dl t ≠ a + 1 then .inl 4 else vgo n a lg (vone st a lg t) ts
def mx (a b : Int) : Int := if a < b then b else a
def vstep (n : Int) (i : Nat) (x : Ins) (st : Vst) : Int ⊕ Vst :=
  if gI st.dl i = 0 then .inr st
  else if gI st.dl i - 1 < needI x.op ∨ 8 < gI st.dl i - 1 + moreI x.op then .inl 10
  else vgo n (gI st.dl i - 1 + moreI x.op) (gI st.ll i) ⟨st.dl, st.ll, mx st.stack (gI st.dl i - 1 + moreI x.op), mx st.steps (gI st.ll i)⟩ (nextI i x)
def v0 (n : Nat) : Vst := ⟨1 :: List.replicate (n - 1) 0, 1 :: List.replicate (n - 1) 0, 0, 0⟩
def vnext (n : Int) (k : Nat) (x : Ins) : Int ⊕ Vst → Int ⊕ Vst
  | .inl e => .inl e
  | .inr st => vstep n k x st
/-- what is known behind the first k instructions. -/
def scan (c : List Ins) : Nat → Int ⊕ Vst
  | 0 => .inr (v0 c.length)
  | k + 1 => match c[k]? with
    | none => scan c k
    | some x => vnext c.length k x (scan c k)
def best (s : List Int) (n : Int) : List Int → Int → Int
  | [], m => m
  | t :: ts, m => best s n ts (if t < n then mx m (gI s t) else m)
/-- the steps from each place on, for the last k places. -/
def sl (c : List Ins) : Nat → List Int
  | 0 => List.replicate c.length 0
  | k + 1 => match c[c.length - 1 - k]? with
    | none => sl c k
    | some x => (sl c k).set (c.length - 1 - k) (best (sl c k) c.length (nextI (c.length - 1 - k) x) 0 + 1)
theorem getD_set_ (l : List Int) (i j : Nat) (v : Int) : (l.set i v).getD j 0 = if i = j ∧ i < l.length then v else l.getD j 0 := by
  simp only [List.getD_eq_getElem?_getD, List.getElem?_set]
  by_cases h : i = j
  · subst h
    by_cases h2 : i < l.length
    · simp [h2]
    · simp [h2, List.getElem?_eq_none (Nat.le_of_not_lt h2)]
  · simp [h]
theorem scan_stop {c : List Ins} {e : Int} : ∀ {k : Nat}, scan c k = .inl e → ∀ d, scan c (k + d) = .inl e
  | k, h, 0 => h
  | k, h, d + 1 => by
    have ih := scan_stop h d
    show scan c (k + d + 1) = _
    unfold scan
    rw [ih]
    split <;> rfl
theorem scan_err {c : List Ins} {e : Int} {k : Nat} {st : Vst} (hk : k < c.length) (h : scan c k = .inr st) (hs : vstep c.length k c[k] st = .inl e) : scan c c.length = .inl e := by
  have h1 : scan c (k + 1) = .inl e := by
    unfold scan
    rw [List.getElem?_eq_getElem hk, h]
    exact hs
  have := scan_stop h1 (c.length - (k + 1))
  rw [show k + 1 + (c.length - (k + 1)) = c.length from by omega] at this
  exact this
theorem scan_ok {c : List Ins} {k : Nat} {st st' : Vst} (hk : k < c.length) (h : scan c k = .inr st) (hs : vstep c.length k c[k] st = .inr st') : scan c (k + 1) = .inr st' := by
  unfold scan
  rw [List.getElem?_eq_getElem hk, h]
  exact hs
theorem sl_len (c : List Ins) : ∀ k, (sl c k).length = c.length
  | 0 => by simp [sl]
  | k + 1 => by
    unfold sl
    split
    · exact sl_len c k
    · rw [List.length_set]; exact sl_len c k
theorem nextI_gt {i : Nat} {x : Ins} (h : 0 ≤ x.n) : ∀ t ∈ nextI i x, (i : Int) < t := by
  intro t ht
  unfold nextI at ht
  split at ht
  · simp at ht
  · split at ht
    · simp at ht; omega
    · split at ht
      · simp at ht; omega
      · simp at ht; omega
theorem mx_ge (a b : Int) : a ≤ mx a b ∧ b ≤ mx a b ∧ (mx a b = a ∨ mx a b = b) := by
  unfold mx; split <;> omega
theorem best_ge (s : List Int) (n : Int) : ∀ (ts : List Int) (m : Int), m ≤ best s n ts m ∧ (∀ t ∈ ts, t < n → gI s t ≤ best s n ts m) ∧ (best s n ts m = m ∨ ∃ t ∈ ts, t < n ∧ best s n ts m = gI s t)
  | [], m => ⟨Int.le_refl _, fun t ht => by simp at ht, .inl rfl⟩
  | t :: ts, m => by
    unfold best
    by_cases c : t < n
    · rw [if_pos c]
      obtain ⟨h1, h2, h3⟩ := best_ge s n ts (mx m (gI s t))
      obtain ⟨g1, g2, g3⟩ := mx_ge m (gI s t)
      refine ⟨by omega, fun u hu hl => ?_, ?_⟩
      · rcases List.mem_cons.1 hu with rfl | hu
        · omega
        · exact h2 u hu hl
      · rcases h3 with h3 | ⟨u, hu, hl, h3⟩
        · rcases g3 with g3 | g3
          · exact .inl (by omega)
          · exact .inr ⟨t, List.mem_cons_self, c, by omega⟩
        · exact .inr ⟨u, List.mem_cons_of_mem _ hu, hl, h3⟩
    · rw [if_neg c]
      obtain ⟨h1, h2, h3⟩ := best_ge s n ts m
      refine ⟨h1, fun u hu hl => ?_, ?_⟩
      · rcases List.mem_cons.1 hu with rfl | hu
        · exact absurd hl c
        · exact h2 u hu hl
      · rcases h3 with h3 | ⟨u, hu, hl, h3⟩
        · exact .inl h3
        · exact .inr ⟨u, List.mem_cons_of_mem _ hu, hl, h3⟩
theorem best_congr {s s' : List Int} {n : Int} : ∀ (ts : List Int) (m : Int), (∀ t ∈ ts, t < n → gI s t = gI s' t) → best s n ts m = best s' n ts m
  | [], m, _ => rfl
  | t :: ts, m, h => by
    unfold best
    have ih := fun m => best_congr (n := n) ts m (fun u hu => h u (List.mem_cons_of_mem _ hu))
    by_cases c : t < n
    · rw [if_pos c, if_pos c, h t List.mem_cons_self c, ih]
    · rw [if_neg c, if_neg c, ih]
theorem sl_succ (c : List Ins) (k : Nat) : sl c (k + 1) = match c[c.length - 1 - k]? with
    | none => sl c k
    | some x => (sl c k).set (c.length - 1 - k) (best (sl c k) c.length (nextI (c.length - 1 - k) x) 0 + 1) := rfl
theorem sl_keep (c : List Ins) (k j : Nat) (hj : c.length ≤ j + k) : ∀ d, k + d ≤ c.length → (sl c (k + d)).getD j 0 = (sl c k).getD j 0
  | 0, _ => rfl
  | d + 1, h => by
    have ih := sl_keep c k j hj d (by omega)
    rw [show k + (d + 1) = (k + d) + 1 from rfl, sl_succ]
    split
    · exact ih
    · rename_i x hx
      rw [getD_set_, if_neg (fun h => by have h1 := h.1; omega)]
      exact ih
theorem sl_at (c : List Ins) (i : Nat) (hi : i < c.length) (h0 : ∀ x ∈ c, 0 ≤ x.n) : gI (sl c c.length) i = best (sl c c.length) c.length (nextI i c[i]) 0 + 1 := by
  obtain ⟨k, hk⟩ : ∃ k, k = c.length - 1 - i := ⟨_, rfl⟩
  have e1 : c.length - 1 - k = i := by omega
  have h1 := sl_keep c (k + 1) i (by omega) (c.length - (k + 1)) (by omega)
  rw [show k + 1 + (c.length - (k + 1)) = c.length from by omega] at h1
  have h2 : (sl c (k + 1)).getD i 0 = best (sl c k) c.length (nextI i c[i]) 0 + 1 := by
    rw [sl_succ, e1, List.getElem?_eq_getElem hi]
    dsimp only
    rw [getD_set_, if_pos ⟨rfl, by rw [sl_len]; exact hi⟩]
  have h3 : best (sl c k) c.length (nextI i c[i]) 0 = best (sl c c.length) c.length (nextI i c[i]) 0 := by
    refine best_congr _ _ fun t ht hl => ?_
    have hg := nextI_gt (h0 _ (List.getElem_mem hi)) t ht
    have h4 := sl_keep c k t.toNat (by omega) (c.length - k) (by omega)
    rw [show k + (c.length - k) = c.length from by omega] at h4
    unfold gI
    exact h4.symm
  unfold gI
  rw [Int.toNat_natCast, h1, h2, h3]
/-- what holds behind the first k instructions. -/
structure Vinv (c : List Ins) (k : Nat) (st : Vst) : Prop where
  dlen : st.dl.length = c.length
  llen : st.ll.length = c.length
  dpos : ∀ j : Nat, 0 ≤ gI st.dl j
  dle : ∀ j : Nat, gI st.dl j ≤ st.stack + 1
  s0 : 0 ≤ st.stack
  s8 : st.stack ≤ 8
  lzero : ∀ j : Nat, gI st.dl j = 0 → gI st.ll j = 0
  lpos : ∀ j : Nat, gI st.dl j ≠ 0 → 1 ≤ gI st.ll j
  lle : ∀ j : Nat, j < c.length → gI st.dl j ≠ 0 → gI st.ll j + gI (sl c c.length) j ≤ gI (sl c c.length) 0 + 1
  tle : st.steps ≤ gI (sl c c.length) 0
  t0 : 0 ≤ st.steps
  wit : st.steps = gI (sl c c.length) 0 ∨ ∃ j : Nat, k ≤ j ∧ j < c.length ∧ gI st.dl j ≠ 0 ∧ gI (sl c c.length) 0 + 1 ≤ gI st.ll j + gI (sl c c.length) j
theorem gI_one (n j : Nat) : gI (1 :: List.replicate n 0) j = if j = 0 then 1 else 0 := by
  unfold gI
  rw [Int.toNat_natCast]
  cases j with
  | zero => rfl
  | succ j =>
    simp only [List.getD_cons_succ]
    by_cases h : j < n
    · simp [h]
    · simp [List.getD_eq_getElem?_getD, List.getElem?_eq_none (show (List.replicate n (0 : Int)).length ≤ j by simpa using h)]
theorem vinv_start (c : List Ins) (hc : 0 < c.length) : Vinv c 0 (v0 c.length) := by
  have hg : ∀ j : Nat, gI (v0 c.length).dl j = if j = 0 then 1 else 0 := fun j => gI_one _ _
  have hl : ∀ j : Nat, gI (v0 c.length).ll j = if j = 0 then 1 else 0 := fun j => gI_one _ _
  have hS : 0 ≤ gI (sl c c.length) 0 := by
    have : ∀ k, ∀ j : Nat, 0 ≤ gI (sl c k) j := by
      intro k
      induction k with
      | zero => intro j; unfold sl gI; simp [List.getD_eq_getElem?_getD, List.getElem?_replicate]; split <;> simp
      | succ k ih =>
        intro j
        rw [sl_succ]
        split
        · exact ih j
        · unfold gI
          rw [Int.toNat_natCast, getD_set_]
          split
          · have := (best_ge (sl c k) c.length (nextI (c.length - 1 - k) (by assumption)) 0).1
            omega
          · have := ih j; unfold gI at this; rw [Int.toNat_natCast] at this; exact this
    exact this _ 0
  refine ⟨by simp [v0]; omega, by simp [v0]; omega, fun j => by rw [hg]; split <;> omega, fun j => by rw [hg]; show _ ≤ (0 : Int) + 1; split <;> omega, Int.le_refl _, by show (0 : Int) ≤ 8; omega, fun j h => by rw [hg] at h; rw [hl]; split at h <;> simp_all, fun j h => by rw [hg] at h; rw [hl]; split at h <;> simp_all, fun j hj h => ?_, hS, Int.le_refl _, .inr ⟨0, Nat.le_refl _, hc, by rw [hg]; simp, by rw [hl]; simp; omega⟩⟩
  rw [hg] at h
  rw [hl]
  split at h
  · rename_i e; subst e; simp; omega
  · exact absurd rfl h
end Go.Proofs.YtlhidbbphngpcaaDoor
namespace Go.Proofs.YtlhidbbphngpcaaDoor
set_option linter.unusedVariables false
set_option linter.unusedSimpArgs false
open Go.ChangeShapes Go.WideShapes Go.ChangeAt Go.RowKit

theorem gI_set (l : List Int) (t : Int) (ht : 0 ≤ t) (hl : t < l.length) (v : Int) (j : Nat) : gI (l.set t.toNat v) j = if t = j then v else gI l j := by
  unfold gI
  rw [Int.toNat_natCast, getD_set_]
  by_cases e : t = j
  · rw [if_pos e, if_pos ⟨by omega, by omega⟩]
  · rw [if_neg e, if_neg (fun h => e (by have := h.1; omega))]
theorem vgo_spec {n a lg : Int} : ∀ {ts : List Int} {st st' : Vst}, vgo n a lg st ts = .inr st' → (∀ t ∈ ts, 0 ≤ t) → (st.dl.length : Int) = n → (st.ll.length : Int) = n →
    st'.stack = st.stack ∧ st'.steps = st.steps ∧ st'.dl.length = st.dl.length ∧ st'.ll.length = st.ll.length ∧
    (∀ j : Nat, (j : Int) ∉ ts → gI st'.dl j = gI st.dl j) ∧ (∀ t ∈ ts, t < n) ∧ (∀ j : Nat, (j : Int) ∈ ts → gI st'.dl j = a + 1 ∧ lg + 1 ≤ gI st'.ll j) ∧
    (∀ j : Nat, gI st'.ll j = gI st.ll j ∨ (gI st'.ll j = lg + 1 ∧ (j : Int) ∈ ts)) ∧ (∀ j : Nat, gI st.ll j ≤ gI st'.ll j)
  | [], st, st', h, _, _, _ => by
    unfold vgo at h
    obtain rfl := Sum.inr.inj h
    exact ⟨rfl, rfl, rfl, rfl, fun _ _ => rfl, fun t ht => by simp at ht, fun j hj => by simp at hj, fun j => .inl rfl, fun j => Int.le_refl _⟩
  | t :: ts, st, st', h, h0, hd, hl => by
    unfold vgo at h
    split at h
    · cases h
    · rename_i c1
      split at h
      · cases h
      · rename_i c2
        have ht := h0 t List.mem_cons_self
        have ih := vgo_spec h (fun u hu => h0 u (List.mem_cons_of_mem _ hu)) (by show ((st.dl.set _ _).length : Int) = n; rw [List.length_set]; exact hd) (by show ((st.ll.set _ _).length : Int) = n; rw [List.length_set]; exact hl)
        obtain ⟨g1, g2, g3, g4, g5, g6, g7, g8, g9⟩ := ih
        have ed : ∀ j : Nat, gI (vone st a lg t).dl j = if t = j then a + 1 else gI st.dl j := fun j => gI_set _ _ ht (by omega) _ _
        have el : ∀ j : Nat, gI (vone st a lg t).ll j = if t = j then (if gI st.ll t < lg + 1 then lg + 1 else gI st.ll t) else gI st.ll j := fun j => gI_set _ _ ht (by omega) _ _
        refine ⟨g1, g2, by rw [g3]; show (st.dl.set _ _).length = _; rw [List.length_set], by rw [g4]; show (st.ll.set _ _).length = _; rw [List.length_set], fun j hj => ?_, fun u hu => ?_, fun j hj => ?_, fun j => ?_, fun j => ?_⟩
        · have hj' : ¬ (j : Int) = t ∧ ¬ (j : Int) ∈ ts := ⟨fun e => hj (e ▸ List.mem_cons_self), fun e => hj (List.mem_cons_of_mem _ e)⟩
          rw [g5 j hj'.2, ed, if_neg (fun e => hj'.1 e.symm)]
        · rcases List.mem_cons.1 hu with rfl | hu
          · omega
          · exact g6 u hu
        · by_cases hm : (j : Int) ∈ ts
          · exact g7 j hm
          · have e : (j : Int) = t := by
              rcases List.mem_cons.1 hj with e | e
              · exact e
              · exact absurd e hm
            refine ⟨by rw [g5 j hm, ed, if_pos e.symm], ?_⟩
            have := g9 j
            rw [el, if_pos e.symm] at this
            split at this <;> omega
        · rcases g8 j with h1 | h1
          · rw [h1, el]
            by_cases e : t = j
            · rw [if_pos e]
              split
              · exact .inr ⟨rfl, by rw [← e]; exact List.mem_cons_self⟩
              · exact .inl (by rw [e])
            · rw [if_neg e]; exact .inl rfl
          · exact .inr ⟨h1.1, List.mem_cons_of_mem _ h1.2⟩
        · have := g9 j
          rw [el] at this
          by_cases e : t = j
          · rw [if_pos e] at this
            rw [e] at this
            split at this <;> omega
          · rw [if_neg e] at this; exact this
theorem vinv_skip {c : List Ins} {k : Nat} {st : Vst} (h : Vinv c k st) (h0 : gI st.dl k = 0) : Vinv c (k + 1) st := by
  refine { h with wit := ?_ }
  rcases h.wit with w | ⟨j, h1, h2, h3, h4⟩
  · exact .inl w
  · refine .inr ⟨j, ?_, h2, h3, h4⟩
    by_cases e : j = k
    · subst e; exact absurd h0 h3
    · omega
theorem vinv_step {c : List Ins} {k : Nat} {st st' : Vst} (h : Vinv c k st) (hk : k < c.length) (hn : ∀ x ∈ c, 0 ≤ x.n) (hs : vstep c.length k c[k] st = .inr st') : Vinv c (k + 1) st' := by
  unfold vstep at hs
  split at hs
  · rename_i h0
    obtain rfl := Sum.inr.inj hs
    exact vinv_skip h h0
  · rename_i h0
    split at hs
    · cases hs
    · rename_i hlim
      have hx := hn _ (List.getElem_mem hk)
      generalize hx' : c[k] = x at *
      obtain ⟨a, ha⟩ : ∃ a, a = gI st.dl k - 1 + moreI x.op := ⟨_, rfl⟩
      rw [← ha] at hs
      have hgt := nextI_gt (i := k) hx
      obtain ⟨g1, g2, g3, g4, g5, g6, g7, g8, g9⟩ := vgo_spec hs (fun t ht => by have := hgt t ht; omega) (by show ((st.dl.length : Nat) : Int) = _; rw [h.dlen]) (by show ((st.ll.length : Nat) : Int) = _; rw [h.llen])
      dsimp only at g1 g2 g3 g4 g5 g8 g9
      have hS := sl_at c k hk hn
      rw [hx'] at hS
      obtain ⟨b1, b2, b3⟩ := best_ge (sl c c.length) c.length (nextI k x) 0
      have hlk := h.lpos k h0
      have hlle := h.lle k hk h0
      have hdk := h.dpos k
      have hdle := h.dle k
      have hstk := mx_ge st.stack a
      have hstp := mx_ge st.steps (gI st.ll k)
      have ha0 : 0 ≤ a := by
        have hneed : ¬ gI st.dl k - 1 < needI x.op := fun e => hlim (.inl e)
        rw [ha]
        unfold needI at hneed
        unfold moreI
        split at hneed <;> split <;> (try split at hneed) <;> (try split) <;> omega
      have ha8 : a ≤ 8 := by have : ¬ 8 < gI st.dl k - 1 + moreI x.op := fun e => hlim (.inr e); omega
      have hs0 := h.s0
      have hs8 := h.s8
      have ht0 := h.t0
      have htle := h.tle
      refine ⟨by rw [g3]; exact h.dlen, by rw [g4]; exact h.llen, fun j => ?_, fun j => ?_, ?_, ?_, fun j hj => ?_, fun j hj => ?_, fun j hj hr => ?_, ?_, ?_, ?_⟩
      · by_cases hm : (j : Int) ∈ nextI k x
        · have := (g7 j hm).1; omega
        · rw [g5 j hm]; exact h.dpos j
      · rw [g1]
        by_cases hm : (j : Int) ∈ nextI k x
        · have := (g7 j hm).1; omega
        · rw [g5 j hm]; have := h.dle j; omega
      · rw [g1]; omega
      · rw [g1]; omega
      · by_cases hm : (j : Int) ∈ nextI k x
        · have := (g7 j hm).1; omega
        · rw [g5 j hm] at hj
          rcases g8 j with e | e
          · rw [e]; exact h.lzero j hj
          · exact absurd e.2 hm
      · have g9j := g9 j
        by_cases hm : (j : Int) ∈ nextI k x
        · have := (g7 j hm).2; omega
        · rw [g5 j hm] at hj
          have := h.lpos j hj; omega
      · rcases g8 j with e | e
        · rw [e]
          by_cases hm : (j : Int) ∈ nextI k x
          · by_cases h00 : gI st.dl j = 0
            · have e2 := h.lzero j h00
              have := (g7 j hm).2
              omega
            · exact h.lle j hj h00
          · rw [g5 j hm] at hr; exact h.lle j hj hr
        · have hb := b2 _ e.2 (by omega)
          rw [e.1]; omega
      · rw [g2]
        have hb0 : 0 ≤ best (sl c c.length) c.length (nextI k x) 0 := b1
        omega
      · rw [g2]; omega
      · rw [g2]
        rcases h.wit with w | ⟨j, j1, j2, j3, j4⟩
        · left
          have hb0 : 0 ≤ best (sl c c.length) c.length (nextI k x) 0 := b1
          omega
        · by_cases e : j = k
          · subst e
            rcases b3 with b3 | ⟨t, ht, hl, b3⟩
            · left; omega
            · right
              have h5 := hgt t ht
              obtain ⟨u, rfl⟩ : ∃ u : Nat, t = u := ⟨t.toNat, by omega⟩
              refine ⟨u, by omega, by omega, ?_, ?_⟩
              · have := (g7 u ht).1; omega
              · have := (g7 u ht).2; omega
          · right
            refine ⟨j, by omega, j2, ?_, ?_⟩
            · by_cases hm : (j : Int) ∈ nextI k x
              · have := (g7 j hm).1; omega
              · rw [g5 j hm]; exact j3
            · have := g9 j; omega
/-- the longest way that was found is the one that is reckoned from the end. -/
theorem vinv_end {c : List Ins} {st : Vst} (h : Vinv c c.length st) : st.steps = gI (sl c c.length) 0 := by
  rcases h.wit with w | ⟨j, j1, j2, _⟩
  · exact w
  · omega
theorem sl_bd (c : List Ins) : ∀ (k j : Nat), 0 ≤ gI (sl c k) j ∧ gI (sl c k) j ≤ k := by
  intro k
  induction k with
  | zero =>
    intro j
    unfold sl gI
    rw [Int.toNat_natCast, List.getD_eq_getElem?_getD, List.getElem?_replicate]
    split <;> simp
  | succ k ih =>
    intro j
    rw [sl_succ]
    split
    · have := ih j; omega
    · rename_i x hx
      unfold gI
      rw [Int.toNat_natCast, getD_set_]
      split
      · obtain ⟨b1, b2, b3⟩ := best_ge (sl c k) c.length (nextI (c.length - 1 - k) x) 0
        rcases b3 with b3 | ⟨t, _, _, b3⟩
        · omega
        · have := ih t.toNat
          rw [b3]
          unfold gI at this ⊢
          rw [Int.toNat_natCast] at this
          omega
      · have := ih j
        unfold gI at this
        rw [Int.toNat_natCast] at this
        omega
theorem sl_zero (c : List Ins) : ∀ (k j : Nat), j + k < c.length → gI (sl c k) j = 0 := by
  intro k
  induction k with
  | zero =>
    intro j _
    unfold sl gI
    rw [Int.toNat_natCast, List.getD_eq_getElem?_getD, List.getElem?_replicate]
    split <;> simp
  | succ k ih =>
    intro j h
    have ih' := ih j (by omega)
    rw [sl_succ]
    split
    · exact ih'
    · unfold gI at ih' ⊢
      rw [Int.toNat_natCast] at ih' ⊢
      rw [getD_set_, if_neg (fun e => by have := e.1; omega)]
      exact ih'
theorem sl_self (c : List Ins) (k j : Nat) (h : j + k < c.length) : (sl c k).set j 0 = sl c k := by
  have hz := sl_zero c k j h
  have hl : j < (sl c k).length := by rw [sl_len]; omega
  unfold gI at hz
  rw [Int.toNat_natCast, List.getD_eq_getElem?_getD, List.getElem?_eq_getElem hl] at hz
  have hz' : (sl c k)[j] = 0 := hz
  rw [← hz']
  exact List.set_getElem_self hl
theorem sl_done (c : List Ins) (k : Nat) (h : k < c.length) (x : Ins) (hx : c[c.length - 1 - k]? = some x) (v : Int) (hv : best (sl c k) c.length (nextI (c.length - 1 - k) x) 0 = v) : (sl c k).set (c.length - 1 - k) (v + 1) = sl c (k + 1) := by
  rw [sl_succ, hx, ← hv]
theorem best_cons (s : List Int) (n t m : Int) (ts : List Int) : best s n (t :: ts) m = best s n ts (if t < n then mx m (gI s t) else m) := rfl
theorem best_nil (s : List Int) (n m : Int) : best s n [] m = m := rfl
end Go.Proofs.YtlhidbbphngpcaaDoor
