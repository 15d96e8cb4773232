/-
  SpansRise, plain: spans begin with the window, and rise; no two beside each other have one clock. · SavingComes, plain: two rules, each year anew; what is saved at their turns. · SpansTell, plain: spans tell the clock of each instant.
-/
import Derived.Test.YtbikdlcjbigafaaGreatDoorJSpF
import Derived.Test.YtbikdlcjbigafaaGreatDoorJAtE
namespace Go.Proofs.YtbikdlcjbigafaaGreatDoor
set_option linter.unusedVariables false
set_option linter.unusedSimpArgs false
open Go.ChangeShapes Go.WideShapes Go.ChangeAt Go.RowKit Civ

/-- spans rise, and change. -/
def RiS (L : List Spn) : Prop := ∀ (i : Nat) (h : i + 1 < L.length), L[i].fr < L[i + 1].fr ∧ L[i + 1].ck ≠ L[i].ck
theorem RiS.snoc {L : List Spn} {p x : Spn} (h : RiS L) (hp : L.getLast? = some p) (h1 : p.fr < x.fr) (h2 : x.ck ≠ p.ck) : RiS (L ++ [x]) := by
  intro i hi
  rw [List.length_append] at hi
  simp only [List.length_cons, List.length_nil] at hi
  by_cases e : i + 1 < L.length
  · rw [List.getElem_append_left (by omega), List.getElem_append_left e]
    exact h i e
  · have e1 : i + 1 = L.length := by omega
    have hl : L[i]'(by omega) = p := by
      rw [List.getLast?_eq_getElem?, ← e1, Nat.add_sub_cancel, List.getElem?_eq_getElem (by omega)] at hp
      exact Option.some.inj hp
    rw [List.getElem_append_left (by omega), List.getElem_append_right (by omega), hl]
    simp only [e1, Nat.sub_self, List.getElem_cons_zero]
    exact ⟨h1, h2⟩
theorem foldP_ris (C : Int → Clk) : ∀ (l : List Int) (L : List Spn), RiS L → L ≠ [] → (∀ p, L.getLast? = some p → ∀ t ∈ l, p.fr < t) → l.Pairwise (· < ·) →
    RiS (l.foldl (addP C) L) ∧ (l.foldl (addP C) L).head? = L.head? ∧ ∀ p ∈ l.foldl (addP C) L, p ∈ L ∨ p.fr ∈ l
  | [], L, h, _, _, _ => ⟨h, rfl, fun p hp => .inl hp⟩
  | t :: l, L, h, hne, hl, hp => by
    have hp1 := List.pairwise_cons.1 hp
    obtain ⟨p, hpl⟩ : ∃ p, L.getLast? = some p := by
      cases e : L.getLast? with
      | none => exact absurd (List.getLast?_eq_none_iff.1 e) hne
      | some p => exact ⟨p, rfl⟩
    rw [List.foldl_cons]
    by_cases e : p.ck = C t
    · rw [addP_same hpl e]
      obtain ⟨a, b, c⟩ := foldP_ris C l L h hne (fun q hq x hx => hl q hq x (List.mem_cons_of_mem _ hx)) hp1.2
      refine ⟨a, b, fun q hq => ?_⟩
      rcases c q hq with h | h
      · exact .inl h
      · exact .inr (List.mem_cons_of_mem _ h)
    · have ea : addP C L t = L ++ [⟨t, C t⟩] := by unfold addP; rw [hpl]; simp [e]
      rw [ea]
      have hr : RiS (L ++ [⟨t, C t⟩]) := h.snoc hpl (hl p hpl t (by simp)) (fun e' => e e'.symm)
      obtain ⟨a, b, c⟩ := foldP_ris C l _ hr (by simp) (fun q hq x hx => by
        rw [List.getLast?_append] at hq
        simp only [List.getLast?_singleton, Option.some_or, Option.some.injEq] at hq
        rw [← hq]
        exact hp1.1 x hx) hp1.2
      refine ⟨a, ?_, fun q hq => ?_⟩
      · rw [b]
        cases L with
        | nil => exact absurd rfl hne
        | cons y L => rfl
      · rcases c q hq with h | h
        · rcases List.mem_append.1 h with h | h
          · exact .inl h
          · rw [List.mem_singleton.1 h]; exact .inr (by simp)
        · exact .inr (List.mem_cons_of_mem _ h)
theorem spn_rise {rules : List Rul} {eras : List Ero} {ends : List Int} (hr : Rise ends) (hl : ends.length + 1 = eras.length) :
    RiS (spnK rules eras ends eras.length) ∧ (∃ c l, spnK rules eras ends eras.length = ⟨-2208988800, c⟩ :: l) ∧ ∀ p ∈ spnK rules eras ends eras.length, -2208988800 ≤ p.fr ∧ p.fr < 4102444800 := by
  rw [← spnR_eq hr hl]
  unfold spnR
  have hA : ((srtC (ptsA rules eras ends)).filter winP).Pairwise (· < ·) := (srtC_rise _).filter _
  have hm : ∀ t ∈ (srtC (ptsA rules eras ends)).filter winP, -2208988800 ≤ t ∧ t < 4102444800 := fun t ht => by
    have := (List.mem_filter.1 ht).2
    rw [winP, Bool.and_eq_true, decide_eq_true_iff, decide_eq_true_iff] at this
    exact this
  obtain ⟨m, em⟩ := head_of_rise hA (u := -2208988800) (List.mem_filter.2 ⟨(srtC_mem _ _).2 (by simp [ptsA]), by decide⟩) fun x hx => (hm x hx).1
  rw [em] at hA hm ⊢
  rw [List.foldl_cons, addP_nil]
  have hp1 := List.pairwise_cons.1 hA
  obtain ⟨a, b, c⟩ := foldP_ris (clkT rules eras ends) m [⟨-2208988800, clkT rules eras ends (-2208988800)⟩] (fun i h => by simp at h) (by simp) (fun p hp t ht => by
    simp only [List.getLast?_singleton, Option.some.injEq] at hp
    rw [← hp]
    exact hp1.1 t ht) hp1.2
  refine ⟨a, ?_, fun p hp => ?_⟩
  · cases e : m.foldl (addP (clkT rules eras ends)) [⟨-2208988800, clkT rules eras ends (-2208988800)⟩] with
    | nil => rw [e] at b; cases b
    | cons y l =>
      rw [e] at b
      simp only [List.head?_cons, Option.some.injEq] at b
      exact ⟨_, l, by rw [b]⟩
  · rcases c p hp with h | h
    · rw [List.mem_singleton.1 h]; exact ⟨Int.le_refl _, by show (-2208988800 : Int) < 4102444800; decide⟩
    · exact hm _ (List.mem_cons_of_mem _ h)
end Go.Proofs.YtbikdlcjbigafaaGreatDoor

namespace Go.Proofs.YtbikdlcjbigafaaGreatDoor
set_option linter.unusedVariables false
set_option linter.unusedSimpArgs false
open Go.ChangeShapes Go.WideShapes Go.ChangeAt Go.RowKit Civ

theorem addK_of {r : Rul} {l : List Trn} : ∀ (k : Nat) (c : Trn), c ∈ addK r l k → c ∈ l ∨ ∃ i : Nat, i < k ∧ c.r = r ∧ c.no = fdN r (r.fr + i) * 86400 + r.at'.t
  | 0, c, h => .inl h
  | k + 1, c, h => by
    have e : addK r l (k + 1) = addY r (addK r l k) (r.fr + k) := rfl
    rw [e] at h
    unfold addY at h
    have hr : c ∈ addK r l k → c ∈ l ∨ ∃ i : Nat, i < k + 1 ∧ c.r = r ∧ c.no = fdN r (r.fr + i) * 86400 + r.at'.t := fun h => by
      rcases addK_of k c h with h | ⟨i, hi, h⟩
      · exact .inl h
      · exact .inr ⟨i, by omega, h⟩
    split at h
    · rcases List.mem_append.1 h with h | h
      · exact hr h
      · obtain rfl := List.mem_singleton.1 h
        exact .inr ⟨k, by omega, rfl, rfl⟩
    · exact hr h
end Go.Proofs.YtbikdlcjbigafaaGreatDoor

namespace Go.Proofs.YtbikdlcjbigafaaGreatDoor
set_option linter.unusedVariables false
set_option linter.unusedSimpArgs false
open Go.ChangeShapes Go.WideShapes Go.ChangeAt Go.RowKit Civ

theorem takeW_congr {α : Type} {p q : α → Bool} : ∀ {l : List α}, (∀ x ∈ l, p x = q x) → l.takeWhile p = l.takeWhile q
  | [], _ => rfl
  | x :: l, h => by
    rw [List.takeWhile_cons, List.takeWhile_cons, h x (by simp), takeW_congr (l := l) fun y hy => h y (List.mem_cons_of_mem _ hy)]
/-- where no point lies between them two instants have one clock. -/
theorem clkT_same {rules : List Rul} {eras : List Ero} {ends : List Int} {v t : Int} (hvt : v ≤ t) (h : ∀ x ∈ ptsA rules eras ends, x ≤ v ∨ t < x) : clkT rules eras ends v = clkT rules eras ends t := by
  by_cases hlt : v < t
  · have he : eraI ends v = eraI ends t := by
      unfold eraI
      rw [takeW_congr fun e he => ?_]
      have := h e (by unfold ptsA; simp [he])
      rw [decide_eq_decide]; omega
    unfold clkT
    rw [he]
    cases hx : eras[eraI ends t]? with
    | none => rfl
    | some x =>
      dsimp only
      unfold clkI
      rw [stL_same hlt]
      intro hrl c hc
      refine h _ ?_
      unfold ptsA
      exact List.mem_cons_of_mem _ (List.mem_append.2 (.inr (List.mem_flatMap.2 ⟨x, List.mem_of_getElem? hx, List.mem_map.2 ⟨c, hc, rfl⟩⟩)))
  · have : v = t := by omega
    rw [this]
/-- the last span that has begun tells C at t. -/
def CovS (C : Int → Clk) (L : List Spn) (t : Int) : Prop := ∀ (i : Nat) (h : i < L.length), L[i].fr ≤ t → (∀ h : i + 1 < L.length, t < L[i + 1].fr) → L[i].ck = C t
theorem CovS.snoc {C : Int → Clk} {L : List Spn} {x : Spn} {a : Int} (h : CovS C L a) (hx : a < x.fr) : CovS C (L ++ [x]) a := by
  intro i hi h1 h2
  rw [List.length_append, List.length_singleton] at hi
  by_cases e : i < L.length
  · rw [List.getElem_append_left e] at h1 ⊢
    refine h i e h1 fun h3 => ?_
    have := h2 (by rw [List.length_append]; omega)
    rw [List.getElem_append_left h3] at this
    exact this
  · rw [List.getElem_append_right (by omega)] at h1
    simp only [List.getElem_singleton] at h1
    omega
theorem cov_last {C : Int → Clk} {L : List Spn} {p : Spn} {t : Int} (hp : L.getLast? = some p) (hc : p.ck = C t) (hl : ∀ q ∈ L, q.fr ≤ t) : CovS C L t := by
  intro i hi h1 h2
  by_cases e : i + 1 < L.length
  · have h3 := h2 e
    have h4 := hl _ (List.getElem_mem e)
    omega
  · rw [List.getLast?_eq_getElem?, show L.length - 1 = i by omega, List.getElem?_eq_getElem hi] at hp
    rw [Option.some.inj hp, hc]
theorem foldP_cov (C : Int → Clk) : ∀ (l : List Int) (L : List Spn) (S : Int → Prop), L ≠ [] → (∀ p ∈ L, ∀ t ∈ l, p.fr < t) → l.Pairwise (· < ·) → (∀ a, S a → CovS C L a ∧ ∀ t ∈ l, a < t) → ∀ a, (S a ∨ a ∈ l) → CovS C (l.foldl (addP C) L) a
  | [], L, S, _, _, _, hS, a, ha => by
    rcases ha with ha | ha
    · exact (hS a ha).1
    · cases ha
  | t :: l, L, S, hne, hl, hp, hS, a, ha => by
    have hp1 := List.pairwise_cons.1 hp
    obtain ⟨p, hpl⟩ : ∃ p, L.getLast? = some p := by
      cases e : L.getLast? with
      | none => exact absurd (List.getLast?_eq_none_iff.1 e) hne
      | some p => exact ⟨p, rfl⟩
    rw [List.foldl_cons]
    by_cases e : p.ck = C t
    · rw [addP_same hpl e]
      refine foldP_cov C l L (fun b => S b ∨ b = t) hne (fun q hq x hx => hl q hq x (List.mem_cons_of_mem _ hx)) hp1.2 (fun b hb => ?_) a ?_
      · rcases hb with hb | rfl
        · exact ⟨(hS b hb).1, fun x hx => (hS b hb).2 x (List.mem_cons_of_mem _ hx)⟩
        · exact ⟨cov_last hpl e fun q hq => Int.le_of_lt (hl q hq b (by simp)), hp1.1⟩
      · rcases ha with ha | ha
        · exact .inl (.inl ha)
        · rcases List.mem_cons.1 ha with rfl | ha
          · exact .inl (.inr rfl)
          · exact .inr ha
    · have ea : addP C L t = L ++ [⟨t, C t⟩] := by unfold addP; rw [hpl]; simp [e]
      rw [ea]
      refine foldP_cov C l _ (fun b => S b ∨ b = t) (by simp) (fun q hq x hx => ?_) hp1.2 (fun b hb => ?_) a ?_
      · rcases List.mem_append.1 hq with hq | hq
        · exact hl q hq x (List.mem_cons_of_mem _ hx)
        · rw [List.mem_singleton.1 hq]; exact hp1.1 x hx
      · rcases hb with hb | rfl
        · exact ⟨(hS b hb).1.snoc ((hS b hb).2 t (by simp)), fun x hx => (hS b hb).2 x (List.mem_cons_of_mem _ hx)⟩
        · refine ⟨cov_last (p := ⟨b, C b⟩) (by simp) rfl fun q hq => ?_, hp1.1⟩
          rcases List.mem_append.1 hq with hq | hq
          · exact Int.le_of_lt (hl q hq b (by simp))
          · rw [List.mem_singleton.1 hq]; exact Int.le_refl _
      · rcases ha with ha | ha
        · exact .inl (.inl ha)
        · rcases List.mem_cons.1 ha with rfl | ha
          · exact .inl (.inr rfl)
          · exact .inr ha
theorem foldP_mem (C : Int → Clk) : ∀ (l : List Int) (L : List Spn), ∀ p ∈ l.foldl (addP C) L, p ∈ L ∨ p.fr ∈ l
  | [], L, p, h => .inl h
  | t :: l, L, p, h => by
    rw [List.foldl_cons] at h
    rcases foldP_mem C l _ p h with h | h
    · have : p ∈ L ∨ p = ⟨t, C t⟩ := by
        unfold addP at h
        split at h
        · split at h
          · exact .inl h
          · rcases List.mem_append.1 h with h | h
            · exact .inl h
            · exact .inr (List.mem_singleton.1 h)
        · exact .inr (List.mem_singleton.1 h)
      rcases this with h | rfl
      · exact .inl h
      · exact .inr (by simp)
    · exact .inr (List.mem_cons_of_mem _ h)
theorem max_le : ∀ (l : List Int) (t : Int), (∃ x ∈ l, x ≤ t) → ∃ a ∈ l, a ≤ t ∧ ∀ b ∈ l, b ≤ t → b ≤ a
  | [], t, h => by obtain ⟨x, hx, -⟩ := h; cases hx
  | x :: l, t, h => by
    by_cases h' : ∃ y ∈ l, y ≤ t
    · obtain ⟨a, ha, h1, h2⟩ := max_le l t h'
      by_cases h3 : x ≤ t ∧ a < x
      · refine ⟨x, by simp, h3.1, fun b hb hbt => ?_⟩
        rcases List.mem_cons.1 hb with rfl | hb
        · exact Int.le_refl _
        · have := h2 b hb hbt; omega
      · refine ⟨a, List.mem_cons_of_mem _ ha, h1, fun b hb hbt => ?_⟩
        rcases List.mem_cons.1 hb with rfl | hb
        · omega
        · exact h2 b hb hbt
    · obtain ⟨y, hy, hyt⟩ := h
      rcases List.mem_cons.1 hy with rfl | hy
      · refine ⟨y, by simp, hyt, fun b hb hbt => ?_⟩
        rcases List.mem_cons.1 hb with rfl | hb
        · exact Int.le_refl _
        · exact absurd ⟨b, hb, hbt⟩ h'
      · exact absurd ⟨y, hy, hyt⟩ h'
/-- spans begin at points, and tell the clock of each instant. -/
theorem spn_cov {rules : List Rul} {eras : List Ero} {ends : List Int} (hr : Rise ends) (hl : ends.length + 1 = eras.length) :
    (∀ p ∈ spnK rules eras ends eras.length, p.fr ∈ ptsA rules eras ends) ∧ ∀ t, -2208988800 ≤ t → t < 4102444800 → CovS (clkT rules eras ends) (spnK rules eras ends eras.length) t := by
  rw [← spnR_eq hr hl]
  unfold spnR
  have hA : ((srtC (ptsA rules eras ends)).filter winP).Pairwise (· < ·) := (srtC_rise _).filter _
  have hAm : ∀ t, t ∈ (srtC (ptsA rules eras ends)).filter winP ↔ t ∈ ptsA rules eras ends ∧ -2208988800 ≤ t ∧ t < 4102444800 := fun t => by
    rw [List.mem_filter, srtC_mem, winP, Bool.and_eq_true, decide_eq_true_iff, decide_eq_true_iff]
  have h0A : (-2208988800 : Int) ∈ (srtC (ptsA rules eras ends)).filter winP := (hAm _).2 ⟨by simp [ptsA], by decide⟩
  have hfm : ∀ p ∈ ((srtC (ptsA rules eras ends)).filter winP).foldl (addP (clkT rules eras ends)) [], p.fr ∈ (srtC (ptsA rules eras ends)).filter winP := fun p hp => by
    rcases foldP_mem _ _ _ p hp with h | h
    · cases h
    · exact h
  refine ⟨fun p hp => ((hAm _).1 (hfm p hp)).1, fun t h0 h1 => ?_⟩
  obtain ⟨a, ha, hat, hmx⟩ := max_le _ t ⟨_, h0A, h0⟩
  have hCt : clkT rules eras ends a = clkT rules eras ends t := clkT_same hat fun x hx => by
    have h3 := (hAm a).1 ha
    by_cases h4 : x ≤ t
    · left
      by_cases h5 : -2208988800 ≤ x
      · exact hmx x ((hAm x).2 ⟨hx, h5, by omega⟩) h4
      · omega
    · right; omega
  have hcov : CovS (clkT rules eras ends) (((srtC (ptsA rules eras ends)).filter winP).foldl (addP (clkT rules eras ends)) []) a := by
    obtain ⟨m, em⟩ := head_of_rise hA h0A fun x hx => ((hAm x).1 hx).2.1
    rw [em] at hA ha ⊢
    rw [List.foldl_cons, addP_nil]
    have hp1 := List.pairwise_cons.1 hA
    refine foldP_cov _ m _ (fun b => b = -2208988800) (by simp) (fun p hp x hx => ?_) hp1.2 (fun b hb => ?_) a ?_
    · rw [List.mem_singleton.1 hp]; exact hp1.1 x hx
    · subst hb
      exact ⟨cov_last (p := ⟨-2208988800, clkT rules eras ends (-2208988800)⟩) (by simp) rfl fun q hq => by rw [List.mem_singleton.1 hq]; exact Int.le_refl _, hp1.1⟩
    · rcases List.mem_cons.1 ha with h | h
      · exact .inl h
      · exact .inr h
  intro i hi h2 h3
  rw [← hCt]
  exact hcov i hi (hmx _ (hfm _ (List.getElem_mem hi)) h2) fun h => Int.lt_of_le_of_lt hat (h3 h)
/-- spans of a name that leads to a zone. -/
theorem sp_gen {s : Src} {n : ByteArray} (h : srcE s = 0) {i : Nat} (hi : i < s.zones.length) (hf : folL s 8 n = (i : Int)) :
    (spE s n = 1 ∧ spV s n = []) ∨ (spE s n = 0 ∧ RiS (spV s n) ∧ (∃ c l, spV s n = ⟨-2208988800, c⟩ :: l) ∧ (∀ p ∈ spV s n, -2208988800 ≤ p.fr ∧ p.fr < 4102444800 ∧ p.fr ∈ ptsA s.rules s.zones[i].eras (untL s.rules s.zones[i].eras)) ∧ (spV s n).length ≤ 1000 ∧ ∀ t, -2208988800 ≤ t → t < 4102444800 → atE s n t = 0 ∧ CovS (atC s n) (spV s n) t) := by
  have hn : fndS s n = 0 := by
    unfold fndS
    rw [if_neg (by simp [h]), hf, if_neg (by omega)]
  have hg := gdZ_of h i hi
  have hs : spS s n = spnZ s.rules s.zones[i].eras := by
    unfold spS
    rw [hf, Int.toNat_natCast, List.getElem?_eq_getElem hi]
  by_cases h2 : 1000 < (spS s n).length
  · have e := spE_l hn h2
    exact .inl ⟨e, spV_n (by rw [e]; decide)⟩
  · have e := spE_z hn h2
    have hv := spV_z e
    refine .inr ⟨e, ?_⟩
    have h3 := spn_rise (rules := s.rules) hg.r hg.len
    have h4 := spn_cov (rules := s.rules) hg.r hg.len
    rw [hv]
    refine ⟨?_, ?_, fun p hp => ?_, by omega, fun t ht0 ht1 => ?_⟩
    · rw [hs]; exact h3.1
    · rw [hs]; exact h3.2.1
    · rw [hs] at hp
      exact ⟨(h3.2.2 p hp).1, (h3.2.2 p hp).2, h4.1 p hp⟩
    · have hz := atE_z hn (t := t) (by omega)
      refine ⟨hz, fun j hj h5 h6 => ?_⟩
      rw [atC_z hz hi hf]
      have := h4.2 t ht0 ht1
      rw [hs] at hj
      simp only [hs] at h5 h6 ⊢
      exact this j hj h5 h6

/-- times, offsets, savings of a source of raw things: none makes an instant that is a second ahead of an hour. -/
def TQ (t : Int) : Prop := t % 60 = 0 ∨ (1800 ≤ t % 3600 ∧ t % 3600 < 1860)
instance (t : Int) : Decidable (TQ t) := by unfold TQ; exact inferInstance
def OQ (o : Int) : Prop := o = 0 ∨ o = 3600 ∨ o = -18000 ∨ o = 1172 ∨ o = 34200 ∨ o = -1500
instance (t : Int) : Decidable (OQ t) := by unfold OQ; exact inferInstance
def SQ (s : Int) : Prop := s = 0 ∨ s = 3600 ∨ s = 1800 ∨ s = -3600
instance (t : Int) : Decidable (SQ t) := by unfold SQ; exact inferInstance
theorem q_mod {d t o s : Int} (ht : TQ t) (ho : OQ o) (hs : SQ s) : (d * 86400 + t - (o + s)) % 3600 ≠ 3599 := by
  unfold TQ at ht
  unfold OQ at ho
  unfold SQ at hs
  rcases ho with rfl | rfl | rfl | rfl | rfl | rfl <;> rcases hs with rfl | rfl | rfl | rfl <;> omega
set_option maxRecDepth 100000 in
theorem hrsQ : ((List.range 4).all fun s => (List.range 4).all fun h => (List.range 3).all fun q => (List.range 60).all fun m => decide (TQ ((tmS (bx (hrsG (h : Int) (q : Int) (m : Int) ++ picL sfxL (s : Int)))).1.1))) = true := by decide +kernel
theorem hrs_q (n s : Int) (hs : 0 ≤ s ∧ s < 4) : TQ ((tmS (bx (hrsT n ++ picL sfxL s))).1.1) := by
  obtain ⟨k, hk, hl⟩ := nat_of hs
  obtain ⟨h, hh, hm⟩ := nat_of (pkz_bd n 4 (by decide))
  obtain ⟨q, hq, hn⟩ := nat_of (pkz_bd (n.tdiv 4) 4 (by decide))
  obtain ⟨m, hmm, ho⟩ := nat_of (pkz_bd (n.tdiv 16) 60 (by decide))
  unfold hrsT
  rw [hk, hh, hq, hmm]
  by_cases h3 : q < 3
  · exact of_decide_eq_true (all_of (all_of (all_of (all_of hrsQ (k := k) hl) (k := h) hm) (k := q) h3) (k := m) ho)
  · obtain rfl : q = 3 := by have : q < 4 := hn; omega
    exact of_decide_eq_true (all_of (all_of (all_of (all_of hrsQ (k := k) hl) (k := h) hm) (k := 2) (by decide)) (k := m) ho)
theorem savQ : ((List.range 6).all fun i => decide (SQ (offS (bx (picL savL (i : Int)))).1)) = true := by decide +kernel
theorem sav_q (n : Int) : SQ (offS (bx (picL savL (pkz n 6)))).1 := by
  obtain ⟨k, hk, hl⟩ := nat_of (pkz_bd n 6 (by decide))
  rw [hk]
  exact of_decide_eq_true (all_of savQ (k := k) hl)
theorem offQ : ((List.range 6).all fun i => decide (OQ (offS (bx (picL offL (i : Int)))).1)) = true := by decide +kernel
theorem off_q (n : Int) : OQ (offS (bx (picL offL (pkz n 6)))).1 := by
  obtain ⟨k, hk, hl⟩ := nat_of (pkz_bd n 6 (by decide))
  rw [hk]
  exact of_decide_eq_true (all_of offQ (k := k) hl)
def erSvW (s : ByteArray) : Int := if s = dashS then 0 else if digB (byI s 0) = true ∨ byI s 0 = 45 then (offS s).1 else 0
theorem rlsQ : ((List.range 4).all fun i => decide (SQ (erSvW (bx (picL rlsL (i : Int)))))) = true := by decide +kernel
theorem rls_q (n : Int) : SQ (erSvW (bx (picL rlsL (pkz n 4)))) := by
  obtain ⟨k, hk, hl⟩ := nat_of (pkz_bd n 4 (by decide))
  rw [hk]
  exact of_decide_eq_true (all_of rlsQ (k := k) hl)
theorem fixQ : (fixWs.all fun ws => decide (TQ (rulO ws).at'.t) && decide (SQ (rulO ws).sv)) = true := by decide +kernel
theorem rules_q (l : List Rz) : ∀ r ∈ (srcO l).rules, TQ r.at'.t ∧ SQ r.sv := by
  intro r hr
  have hr : r ∈ ((l.take 7).map rulWs ++ fixWs).map rulO := hr
  obtain ⟨ws, hw, rfl⟩ := List.mem_map.1 hr
  rcases List.mem_append.1 hw with h | h
  · obtain ⟨x, -, rfl⟩ := List.mem_map.1 h
    exact ⟨hrs_q x.ra (pkz x.ra 4) (pkz_bd _ _ (by decide)), sav_q x.rc⟩
  · have := List.all_eq_true.1 fixQ ws h
    rw [Bool.and_eq_true, decide_eq_true_eq, decide_eq_true_eq] at this
    exact this
/-- an era's numbers. -/
def EroQ (x : Ero) : Prop := OQ x.off ∧ SQ x.sv ∧ TQ x.un.t
theorem ers_q (l : List Rz) (z : Nat) : ∀ x ∈ (ersOf l z).map erO, EroQ x := by
  intro x hx
  obtain ⟨ws, hw, rfl⟩ := List.mem_map.1 hx
  rcases List.mem_append.1 hw with h | h
  · have : ∀ (l : List Rz) (y : Int), ∀ ws ∈ ersWs l y, EroQ (erO ws) := by
      intro l
      induction l with
      | nil => intro y ws h; simp [ersWs] at h
      | cons x l ih =>
        intro y ws h
        rcases List.mem_cons.1 h with rfl | h
        · refine ⟨off_q x.kd, rls_q (x.kd.tdiv 6), ?_⟩
          have := hrs_q x.rb 0 (by decide)
          rw [show picL sfxL 0 = [] from rfl, List.append_nil] at this
          exact this
        · exact ih _ ws h
    exact this _ _ ws h
  · rw [List.mem_singleton.1 h]
    exact ⟨off_q _, rls_q _, .inl rfl⟩
/-- what is saved ahead of a turn is what a rule saves, or nothing. -/
theorem atZ_svP (o : Int) (P : Int → Prop) : ∀ (l : List Trn) (s : Int), P s → (∀ y ∈ l, P y.r.sv) → ∀ x ∈ atZ o s l, ∃ y ∈ l, ∃ s', P s' ∧ x = ⟨y.r, y.no, y.tg, insT' o s' y⟩
  | [], _, _, _, x, h => by cases h
  | y :: l, s, hs, hl, x, h => by
    have h' : x ∈ (⟨y.r, y.no, y.tg, insT' o s y⟩ : Trn) :: atZ o y.r.sv l := h
    rcases List.mem_cons.1 h' with rfl | h2
    · exact ⟨y, List.mem_cons_self, s, hs, rfl⟩
    · obtain ⟨z, hz, s', h3, h4⟩ := atZ_svP o P l _ (hl y (by simp)) (fun w hw => hl w (List.mem_cons_of_mem _ hw)) x h2
      exact ⟨z, List.mem_cons_of_mem _ hz, s', h3, h4⟩
theorem trn0_no (rules : List Rul) (n : ByteArray) : ∀ c ∈ trn0 rules n, c.r ∈ rules ∧ ∃ d : Int, c.no = d * 86400 + c.r.at'.t := by
  have key : ∀ (l : List Rul) (out : List Trn), (∀ c ∈ out, c.r ∈ rules ∧ ∃ d : Int, c.no = d * 86400 + c.r.at'.t) → (∀ r ∈ l, r ∈ rules) → ∀ c ∈ l.foldl (addR n) out, c.r ∈ rules ∧ ∃ d : Int, c.no = d * 86400 + c.r.at'.t := by
    intro l
    induction l with
    | nil => intro out h _ c hc; exact h c hc
    | cons r l ih =>
      intro out h hl c hc
      rw [List.foldl_cons] at hc
      refine ih _ (fun c hc => ?_) (fun x hx => hl x (List.mem_cons_of_mem _ hx)) c hc
      unfold addR at hc
      split at hc
      · rcases addK_of _ _ hc with hc | ⟨i, -, h2, h3⟩
        · exact h c hc
        · exact ⟨by rw [h2]; exact hl r (by simp), _, by rw [h3, h2]⟩
      · exact h c hc
  exact key rules [] (fun c hc => by cases hc) (fun r hr => hr)
/-- turns of an era. -/
theorem trE_mod {rules : List Rul} {x : Ero} (hr : ∀ r ∈ rules, TQ r.at'.t ∧ SQ r.sv) (hx : OQ x.off) : ∀ c ∈ trE rules x, c.r ∈ rules ∧ c.ins % 3600 ≠ 3599 := by
  intro c hc
  unfold trE trns at hc
  obtain ⟨y, hy, s', hs, rfl⟩ := atZ_svP x.off SQ _ 0 (.inl rfl) (fun y hy => (hr _ (trn0_no rules x.rl y (so_mem hy)).1).2) c hc
  obtain ⟨h1, d, h2⟩ := trn0_no rules x.rl y (so_mem hy)
  refine ⟨h1, ?_⟩
  have ht := (hr _ h1).1
  show insT' x.off s' y % 3600 ≠ 3599
  unfold insT'
  rw [h2]
  split
  · exact q_mod ht hx hs
  · split
    · have := q_mod (d := d) ht hx (s := 0) (.inl rfl)
      rw [Int.add_zero] at this
      exact this
    · have := q_mod (d := d) ht (o := 0) (s := 0) (.inl rfl) (.inl rfl)
      rw [Int.add_zero] at this
      exact this
theorem stL_q {rules : List Rul} {x : Ero} {t : Int} (hr : ∀ r ∈ rules, TQ r.at'.t ∧ SQ r.sv) (hx : EroQ x) : SQ (stL rules x (trE rules x) t).1 := by
  unfold stL
  split
  · exact hx.2.1
  · split
    · rename_i c hc
      unfold lastT at hc
      have := List.mem_reverse.1 (List.mem_of_find?_eq_some hc)
      exact (hr _ (trE_mod hr hx.1 c this).1).2
    · exact .inl rfl
theorem endE_mod {rules : List Rul} {x : Ero} (hr : ∀ r ∈ rules, TQ r.at'.t ∧ SQ r.sv) (hx : EroQ x) : endE rules x % 3600 ≠ 3599 := by
  unfold endE unI Civ.ins
  have hs : SQ (svE rules x) := by
    unfold svE
    split
    · exact stL_q hr hx
    · exact .inl rfl
  split
  · exact q_mod hx.2.2 hx.1 hs
  · split
    · have := q_mod (d := fnd x.yr x.un.mo x.un.k x.un.a x.un.n) hx.2.2 hx.1 (s := 0) (.inl rfl)
      rw [Int.add_zero] at this
      exact this
    · have := q_mod (d := fnd x.yr x.un.mo x.un.k x.un.a x.un.n) hx.2.2 (o := 0) (s := 0) (.inl rfl) (.inl rfl)
      rw [Int.add_zero] at this
      simpa using this
theorem pts_mod {rules : List Rul} {eras : List Ero} (hr : ∀ r ∈ rules, TQ r.at'.t ∧ SQ r.sv) (he : ∀ x ∈ eras, EroQ x) : ∀ p ∈ ptsA rules eras (untL rules eras), p % 3600 ≠ 3599 := by
  intro p hp
  unfold ptsA at hp
  rcases List.mem_cons.1 hp with rfl | hp
  · decide
  · rcases List.mem_append.1 hp with hp | hp
    · unfold untL at hp
      obtain ⟨x, hx, rfl⟩ := List.mem_map.1 hp
      exact endE_mod hr (he x (List.dropLast_subset _ hx))
    · obtain ⟨x, hx, h2⟩ := List.mem_flatMap.1 hp
      obtain ⟨c, hc, rfl⟩ := List.mem_map.1 h2
      exact (trE_mod hr (he x hx).1 c hc).2
theorem zIdx_two (xs : List Rz) : zIdx (srcO xs) (bx twoWd) = 1 := by
  have e2 : fidx (fun z : Zon => decide (z.nm = bx twoWd)) [⟨bx twoWd, (ersOf xs 1).map erO⟩] = 0 := fidx_hd (p := fun z : Zon => decide (z.nm = bx twoWd)) (x := ⟨bx twoWd, (ersOf xs 1).map erO⟩) (xs := []) (bx_eqt twoWd)
  exact (fidx_tl (p := fun z : Zon => decide (z.nm = bx twoWd)) (x := ⟨bx oneWd, (ersOf xs 0).map erO⟩) (xs := [⟨bx twoWd, (ersOf xs 1).map erO⟩]) (bx_nef (by decide))).trans (by rw [e2]; rfl)
theorem fol_two (xs : List Rz) : folL (srcO xs) 8 (bx twoWd) = 1 := by
  rw [folL_hit (by rw [zIdx_two]; decide), zIdx_two]
def nobWd : Wd := [78, 111, 98, 111, 100, 121]
theorem lIdx_nob (xs : List Rz) {n : Wd} (h1 : threeWd ≠ n) (h2 : fourWd ≠ n) : lIdx (srcO xs) (bx n) = -1 := by
  have e2 : fidx (fun l : Lnk => decide (l.nm = bx n)) [⟨bx threeWd, bx fourWd⟩] = -1 := (fidx_tl (p := fun l : Lnk => decide (l.nm = bx n)) (x := ⟨bx threeWd, bx fourWd⟩) (xs := []) (bx_nef h2)).trans rfl
  exact (fidx_tl (p := fun l : Lnk => decide (l.nm = bx n)) (x := ⟨bx oneWd, bx threeWd⟩) (xs := [⟨bx threeWd, bx fourWd⟩]) (bx_nef h1)).trans (by rw [e2]; rfl)
theorem fol_nob (xs : List Rz) {n : Wd} (h1 : oneWd ≠ n) (h2 : twoWd ≠ n) (h3 : threeWd ≠ n) (h4 : fourWd ≠ n) : folL (srcO xs) 8 (bx n) = -1 := by
  have e : folL (srcO xs) 8 (bx n) = if lIdx (srcO xs) (bx n) < 0 then -1 else folL (srcO xs) 7 (((srcO xs).links[(lIdx (srcO xs) (bx n)).toNat]?).elim ByteArray.empty Lnk.of) := if_neg (by rw [zIdx_other xs h1 h2]; decide)
  rw [e, lIdx_nob xs h3 h4]
  rfl
/-- what SpansTell asks of a zone of a source of raw things. -/
theorem spO_tell (xs : List Rz) (h : srcE (srcO xs) = 0) {n : ByteArray} {i : Nat} (hi : i < 2) (hf : folL (srcO xs) 8 n = (i : Int)) :
    (spE (srcO xs) n = 1 ∧ spV (srcO xs) n = []) ∨ (spE (srcO xs) n = 0 ∧ RiS (spV (srcO xs) n) ∧ (∃ c l, spV (srcO xs) n = ⟨-2208988800, c⟩ :: l) ∧ (∀ p ∈ spV (srcO xs) n, -2208988800 ≤ p.fr ∧ p.fr ≤ 4102444798) ∧ (spV (srcO xs) n).length ≤ 1000 ∧ ∀ t, -2208988800 ≤ t → t < 4102444800 → atE (srcO xs) n t = 0 ∧ CovS (atC (srcO xs) n) (spV (srcO xs) n) t) := by
  have hz : ∀ x ∈ ((srcO xs).zones[i]'(by show i < 2; exact hi)).eras, EroQ x := by
    have : i = 0 ∨ i = 1 := by omega
    rcases this with rfl | rfl
    · exact ers_q xs 0
    · exact ers_q xs 1
  rcases sp_gen h (show i < (srcO xs).zones.length from hi) hf with h1 | ⟨h1, h2, h3, h4, h5, h6⟩
  · exact .inl h1
  · refine .inr ⟨h1, h2, h3, fun p hp => ?_, h5, h6⟩
    obtain ⟨a, b, c⟩ := h4 p hp
    have := pts_mod (rules_q xs) hz p.fr c
    refine ⟨a, ?_⟩
    by_cases e : p.fr = 4102444799
    · rw [e] at this; exact absurd rfl this
    · omega
theorem at_far (xs : List Rz) (h : srcE (srcO xs) = 0) : atE (srcO xs) (bx twoWd) 4102444800 = 2 := atE_w (by unfold fndS; rw [if_neg (by simp [h]), fol_two, if_neg (by decide)]) (by omega)
theorem at_none (xs : List Rz) (h : srcE (srcO xs) = 0) (t : Int) : atE (srcO xs) (bx nobWd) t = 6 := by
  have : fndS (srcO xs) (bx nobWd) = 6 := by unfold fndS; rw [if_neg (by simp [h]), fol_nob xs (by decide) (by decide) (by decide) (by decide), if_pos (by decide)]
  rw [atE_f (by rw [this]; decide), this]
end Go.Proofs.YtbikdlcjbigafaaGreatDoor
