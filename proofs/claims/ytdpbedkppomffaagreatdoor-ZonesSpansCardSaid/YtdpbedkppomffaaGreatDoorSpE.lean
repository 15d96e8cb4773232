/-
  sundialref.SpansOf, plain: its points; states far ahead of the window.
-/
import Derived.Test.YtdpbedkppomffaaGreatDoorSpD
import Derived.Test.YtdpbedkppomffaaGreatDoorSpB
namespace Go.Proofs.YtdpbedkppomffaaGreatDoor
set_option linter.unusedVariables false
set_option linter.unusedSimpArgs false
open Go.ChangeShapes Go.WideShapes Go.ChangeAt Go.RowKit Civ

theorem eraI_stp {ends : List Int} {t : Int} {i : Nat} (hi : i ≤ ends.length) (h1 : ∀ (j : Nat) (hj : j < ends.length), j < i → ends[j] ≤ t) (h2 : ∀ (h : i < ends.length), t < ends[i]) : eraI ends t = i := by
  rcases Nat.lt_trichotomy (eraI ends t) i with h | h | h
  · have a := eraI_ge ends t (by omega)
    have b := h1 (eraI ends t) (by omega) h
    omega
  · exact h
  · have hle := eraI_le ends t
    have a := eraI_lt ends t i (by omega) h
    have b := h2 (by omega)
    omega
theorem untL_gt (rules : List Rul) (l : List Ero) (k : Nat) (h : k + 1 < l.length) : (untL rules l)[k]'(by rw [untL_len]; omega) = endE rules (l[k]'(by omega)) := by simp [untL]
theorem atZ_sv (o : Int) : ∀ (l : List Trn) (s : Int) (x : Trn), x ∈ atZ o s l → ∃ y ∈ l, ∃ s', (s' = s ∨ ∃ u ∈ l, s' = u.r.sv) ∧ x = ⟨y.r, y.no, y.tg, insT' o s' y⟩
  | [], _, x, h => by cases h
  | y :: l, s, x, h => by
    have h' : x ∈ (⟨y.r, y.no, y.tg, insT' o s y⟩ : Trn) :: atZ o y.r.sv l := h
    rcases List.mem_cons.1 h' with e | h2
    · exact ⟨y, List.mem_cons_self, s, .inl rfl, e⟩
    · obtain ⟨z, hz, s', hs', e⟩ := atZ_sv o l _ x h2
      refine ⟨z, List.mem_cons_of_mem _ hz, s', ?_, e⟩
      rcases hs' with rfl | ⟨u, hu, e'⟩
      · exact .inr ⟨y, List.mem_cons_self, rfl⟩
      · exact .inr ⟨u, List.mem_cons_of_mem _ hu, e'⟩
theorem trE_ins (rules : List Rul) (x : Ero) (h : ∀ r ∈ rules, rulE r = 0) (ho : -86400 ≤ x.off ∧ x.off ≤ 86400) : ∀ c ∈ trE rules x, -2260000000 ≤ c.ins ∧ c.ins ≤ 4160000000 := by
  intro c hc
  obtain ⟨y, hy, s', hs', rfl⟩ := atZ_sv x.off _ 0 c hc
  have hT := (trn0_all rules x.rl h).1
  have h1 := hT.no y (so_mem hy)
  have h2 : -86400 ≤ s' ∧ s' ≤ 86400 := by
    rcases hs' with rfl | ⟨u, hu, rfl⟩
    · decide
    · have h3 := (hT.rl u (so_mem hu)).1
      obtain ⟨-, -, -, -, -, a, b, -⟩ := rulE_zero (h _ h3)
      exact ⟨a, b⟩
  show -2260000000 ≤ insT' x.off s' y ∧ insT' x.off s' y ≤ 4160000000
  unfold insT'
  split
  · omega
  · split <;> omega
/-- ahead of all turns. -/
def farT : Int := -1002208988800
theorem stL_tell (rules : List Rul) (x : Ero) (t : Int) (h : ∀ r ∈ rules, rulE r = 0) (ho : -86400 ≤ x.off ∧ x.off ≤ 86400) :
    stL rules x (trE rules x) t = match lastT (trE rules x) t with | some c => (c.r.sv, c.r.lt) | none => stL rules x (trE rules x) farT := by
  by_cases e : x.rl = ByteArray.empty
  · have ht : trE rules x = [] := by
      unfold trE trns
      rw [e, trn0_none rules h, so_self (show Sd [] from List.Pairwise.nil)]
      rfl
    rw [ht]
    unfold stL
    rw [if_pos e, if_pos e]
    rfl
  · have hf : lastT (trE rules x) farT = none := by
      unfold lastT
      rw [List.find?_eq_none]
      intro c hc
      have := trE_ins rules x h ho c (List.mem_reverse.1 hc)
      unfold farT
      simp
      omega
    have hs : ∀ t, stL rules x (trE rules x) t = match lastT (trE rules x) t with | some c => (c.r.sv, c.r.lt) | none => (0, firstL rules x.rl) := fun t => by
      unfold stL
      rw [if_neg e]
      cases lastT (trE rules x) t <;> rfl
    rw [hs t, hs farT, hf]
/-- the document's points, of the first so many eras. -/
def atR (rules : List Rul) (eras : List Ero) : Nat → List Int
  | 0 => [-2208988800]
  | k + 1 => match eras[k]? with
    | some x => (if k + 1 < eras.length then atR rules eras k ++ [endE rules x] else atR rules eras k) ++ (trE rules x).map Trn.ins
    | none => atR rules eras k
theorem atR_succ (rules : List Rul) (eras : List Ero) (k : Nat) (h : k < eras.length) : atR rules eras (k + 1) = (if k + 1 < eras.length then atR rules eras k ++ [endE rules eras[k]] else atR rules eras k) ++ (trE rules eras[k]).map Trn.ins := by
  have e : eras[k]? = some eras[k] := List.getElem?_eq_getElem h
  show (match eras[k]? with | some x => _ | none => _) = _
  rw [e]
theorem atR_mem (rules : List Rul) (eras : List Ero) (t : Int) : ∀ k, k ≤ eras.length → (t ∈ atR rules eras k ↔ t = -2208988800 ∨ ∃ i, ∃ h : i < eras.length, i < k ∧ ((i + 1 < eras.length ∧ t = endE rules eras[i]) ∨ ∃ c ∈ trE rules eras[i], c.ins = t))
  | 0, _ => by
    show t ∈ [-2208988800] ↔ _
    rw [List.mem_singleton]
    constructor
    · exact .inl
    · rintro (h | ⟨i, _, h, -⟩)
      · exact h
      · omega
  | k + 1, hk => by
    rw [atR_succ rules eras k (by omega), List.mem_append, List.mem_map]
    have ih := atR_mem rules eras t k (by omega)
    have h1 : t ∈ (if k + 1 < eras.length then atR rules eras k ++ [endE rules (eras[k]'(by omega))] else atR rules eras k) ↔ t ∈ atR rules eras k ∨ (k + 1 < eras.length ∧ t = endE rules (eras[k]'(by omega))) := by
      split
      · rename_i hlt
        rw [List.mem_append, List.mem_singleton]
        constructor
        · rintro (h | h)
          · exact .inl h
          · exact .inr ⟨hlt, h⟩
        · rintro (h | h)
          · exact .inl h
          · exact .inr h.2
      · rename_i hlt
        constructor
        · exact .inl
        · rintro (h | h)
          · exact h
          · exact absurd h.1 hlt
    rw [h1, ih]
    constructor
    · rintro (((h | ⟨i, hi, hik, h⟩) | h) | h)
      · exact .inl h
      · exact .inr ⟨i, hi, by omega, h⟩
      · exact .inr ⟨k, by omega, by omega, .inl h⟩
      · exact .inr ⟨k, by omega, by omega, .inr h⟩
    · rintro (h | ⟨i, hi, hik, h⟩)
      · exact .inl (.inl (.inl h))
      · by_cases e : i = k
        · subst e
          rcases h with h | h
          · exact .inl (.inr h)
          · exact .inr h
        · exact .inl (.inl (.inr ⟨i, hi, by omega, h⟩))
theorem atR_pts (rules : List Rul) (eras : List Ero) : srtC (atR rules eras eras.length) = srtC (ptsA rules eras (untL rules eras)) := by
  refine rise_ext (srtC_rise _) (srtC_rise _) fun t => ?_
  rw [srtC_mem, srtC_mem, atR_mem rules eras t _ (Nat.le_refl _)]
  unfold ptsA
  rw [List.mem_cons, List.mem_append, List.mem_flatMap]
  constructor
  · rintro (h | ⟨i, hi, -, (⟨h1, h2⟩ | ⟨c, hc, h⟩)⟩)
    · exact .inl h
    · refine .inr (.inl ?_)
      rw [h2, ← untL_gt rules eras i h1]
      exact List.getElem_mem _
    · exact .inr (.inr ⟨eras[i], List.getElem_mem hi, List.mem_map.2 ⟨c, hc, h⟩⟩)
  · rintro (h | h | ⟨x, hx, h⟩)
    · exact .inl h
    · obtain ⟨i, hi, e⟩ := List.mem_iff_getElem.1 h
      have hl : i + 1 < eras.length := by rw [untL_len] at hi; omega
      rw [untL_gt rules eras i hl] at e
      exact .inr ⟨i, by omega, by omega, .inl ⟨hl, e.symm⟩⟩
    · obtain ⟨i, hi, e⟩ := List.mem_iff_getElem.1 hx
      obtain ⟨c, hc, h⟩ := List.mem_map.1 h
      exact .inr ⟨i, hi, hi, .inr ⟨c, by rw [e]; exact hc, h⟩⟩
theorem atR_len (rules : List Rul) (eras : List Ero) (h : ∀ x ∈ eras, (trE rules x).length ≤ 40000) : ∀ k, k ≤ eras.length → (atR rules eras k).length ≤ 1 + 40001 * k
  | 0, _ => by show 1 ≤ _; omega
  | k + 1, hk => by
    have ih := atR_len rules eras h k (by omega)
    have h1 := h (eras[k]'(by omega)) (List.getElem_mem _)
    rw [atR_succ rules eras k (by omega), List.length_append, List.length_map]
    split
    · rw [List.length_append, List.length_singleton]; omega
    · omega
/-- the document's spans, of the first so many points. -/
def spR (rules : List Rul) (eras : List Ero) (P : List Int) (k : Nat) : List Spn := ((P.take k).filter winP).foldl (addP (clkT rules eras (untL rules eras))) []
theorem spR_succ (rules : List Rul) (eras : List Ero) (P : List Int) (k : Nat) (h : k < P.length) : spR rules eras P (k + 1) = if winP P[k] = true then addQ (spR rules eras P k) P[k] (clkT rules eras (untL rules eras) P[k]) else spR rules eras P k := by
  unfold spR
  rw [List.take_succ_eq_append_getElem h, List.filter_append, List.foldl_append]
  by_cases hw : winP P[k] = true
  · rw [if_pos hw, List.filter_cons_of_pos hw]
    rfl
  · rw [if_neg hw, List.filter_cons_of_neg hw]
    rfl
theorem spR_len (rules : List Rul) (eras : List Ero) (P : List Int) : ∀ k, k ≤ P.length → (spR rules eras P k).length ≤ k
  | 0, _ => by unfold spR; simp
  | k + 1, hk => by
    have ih := spR_len rules eras P k (by omega)
    rw [spR_succ rules eras P k (by omega)]
    split
    · have := addQ_len (spR rules eras P k) (P[k]'(by omega)) (clkT rules eras (untL rules eras) (P[k]'(by omega)))
      omega
    · omega
theorem spR_all (rules : List Rul) (eras : List Ero) : spR rules eras (srtC (atR rules eras eras.length)) (srtC (atR rules eras eras.length)).length = spnR rules eras (untL rules eras) := by
  unfold spR spnR
  rw [List.take_length, atR_pts]
/-- a row that bears what another block does not, where that other block alone is changed. -/
theorem SlAt.aside {α : Type} {w w' : World} {sz b j : Nat} {R : List Value → α → Prop} {v : Value} {xs : List α} (h : SlAt w sz R v xs) (p : Value → Prop) (hj : j < sz) (hR : ∀ cs x, R cs x → ∃ c, cs[j]? = some c ∧ p c)
    (hb : ∀ i u, w.cell? ⟨b, i, none⟩ = some u → ¬ p u) (hw : ∀ c, c < w.heap.size → c ≠ b → w'.heap[c]? = w.heap[c]?) (hs : w.heap.size ≤ w'.heap.size) : SlAt w' sz R v xs := by
  rcases h with h | ⟨d, off, cap, hv, p0, p1, p2, p3, p4⟩
  · exact .inl h
  · have hne : d ≠ b := fun e => by
      subst e
      obtain ⟨cs, _, q1, q2⟩ := p4 0 p0
      obtain ⟨c, q3, q4⟩ := hR _ _ q1
      exact hb _ c ((q2 j hj).trans q3) q4
    refine .inr ⟨d, off, cap, hv, p0, p1, p2, Nat.lt_of_lt_of_le p3 hs, fun i hi => ?_⟩
    obtain ⟨cs, q0, q1, q2⟩ := p4 i hi
    exact ⟨cs, q0, q1, fun j hj => by rw [World.cell?_of_block (a := ⟨d, _, none⟩) (hw d p3 hne)]; exact q2 j hj⟩
theorem BxO.setI {W : World} {b : Nat} {cs : Array Value} {t : TypeId} (h : BxO W b cs t) (i : Nat) (u : Value) : BxO (W.setCell ⟨b, i, none⟩ u) b (cs.setIfInBounds i u) t := by
  simp [BxO, World.setCell, Array.getElem?_modify, show W.heap[b]? = _ from h]
/-- a row that is filled from its front. -/
def padV (l : List Value) (n : Nat) (z : Value) : Array Value := (l ++ List.replicate (n - l.length) z).toArray
theorem padV_size (l : List Value) (n : Nat) (z : Value) (h : l.length ≤ n) : (padV l n z).size = n := by
  unfold padV
  simp
  omega
theorem padV_set (l : List Value) (n : Nat) (z u : Value) (h : l.length < n) : (padV l n z).setIfInBounds l.length u = padV (l ++ [u]) n z := by
  unfold padV
  obtain ⟨m, hm⟩ : ∃ m, n - l.length = m + 1 := ⟨n - l.length - 1, by omega⟩
  have hm2 : n - (l ++ [u]).length = m := by rw [List.length_append, List.length_singleton]; omega
  rw [hm, hm2, List.replicate_succ, List.setIfInBounds_toArray]
  congr 1
  simp [List.set_append]
theorem padV_at (l : List Value) (n : Nat) (z : Value) (i : Nat) (h : i < l.length) : (padV l n z)[i]? = some l[i] := by
  unfold padV
  rw [List.getElem?_toArray, List.getElem?_append_left h, List.getElem?_eq_getElem h]
theorem padV_mem (l : List Value) (n : Nat) (z : Value) (i : Nat) (u : Value) (h : (padV l n z)[i]? = some u) : u ∈ l ∨ u = z := by
  unfold padV at h
  rw [List.getElem?_toArray] at h
  have := List.mem_of_getElem? h
  rcases List.mem_append.1 this with h | h
  · exact .inl h
  · exact .inr (List.eq_of_mem_replicate h)
end Go.Proofs.YtdpbedkppomffaaGreatDoor
