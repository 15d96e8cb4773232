/-
  tree.merged, plain: answers that are the same are one, neighbours with one answer are one.
-/
import Derived.Test.YtlhidbbphngpcaaOptC
namespace Go.Proofs.Ytlhidbbphngpcaa
set_option linter.unusedVariables false
set_option linter.unusedSimpArgs false
open Go.ChangeShapes Go.WideShapes Go.ChangeAt Go.RowKit

def eqA (a b : Ans) : Bool := a.ck.off == b.ck.off && a.ck.sav == b.ck.sav && a.ck.nm.data.toList == b.ck.nm.data.toList && a.jump == b.jump && a.offs == b.offs
theorem eqA_iff (a b : Ans) : eqA a b = true ↔ a = b := by
  obtain ⟨⟨o, s, n⟩, f, j⟩ := a
  obtain ⟨⟨o', s', n'⟩, f', j'⟩ := b
  unfold eqA
  simp only [Bool.and_eq_true, beq_iff_eq]
  constructor
  · rintro ⟨⟨⟨⟨h1, h2⟩, h3⟩, h4⟩, h5⟩
    have : n = n' := ByteArray.ext (Array.toList_inj.1 h3)
    subst h1 h2 this h4 h5
    rfl
  · intro h
    injection h with h1 h2 h3
    injection h1 with h4 h5 h6
    subst h4 h5 h6 h2 h3
    exact ⟨⟨⟨⟨rfl, rfl⟩, rfl⟩, rfl⟩, rfl⟩
def mgStep (st : List Ans × List Int) (a : Ans) : List Ans × List Int :=
  if fidx (eqA a) st.1 < 0 then (st.1 ++ [a], st.2 ++ [(st.1.length : Int)]) else (st.1, st.2 ++ [fidx (eqA a) st.1])
def mg (az : List Ans) : List Ans × List Int := az.foldl mgStep ([], [])
theorem mg_snoc (az : List Ans) (a : Ans) : mg (az ++ [a]) = mgStep (mg az) a := by unfold mg; rw [List.foldl_append]; rfl
theorem fidx_hit {α : Type} (p : α → Bool) : ∀ (xs : List α), 0 ≤ fidx p xs → ∃ (k : Nat) (h : k < xs.length), fidx p xs = k ∧ p xs[k] = true
  | xs, h => by
    by_cases hn : ∀ i (hi : i < xs.length), p xs[i] = false
    · rw [fidx_none p xs hn] at h; omega
    · obtain ⟨i, hi⟩ := Classical.not_forall.1 hn
      obtain ⟨hi, hp⟩ := Classical.not_forall.1 hi
      have hp : p xs[i] = true := by simpa using hp
      obtain ⟨m, ⟨⟨hm, hpm⟩, hmin⟩, _⟩ := least (p := fun k => ∃ h : k < xs.length, p xs[k] = true) i ⟨hi, hp⟩
      refine ⟨m, hm, fidx_at p xs m hm (fun j hj => ?_) hpm, hpm⟩
      have := hmin j hj
      cases e : p (xs[j]'(by omega)) with
      | false => rfl
      | true => exact absurd ⟨by omega, e⟩ this
theorem fidx_miss {α : Type} (p : α → Bool) (xs : List α) (h : fidx p xs < 0) : ∀ i (hi : i < xs.length), p xs[i] = false := by
  intro i hi
  cases e : p xs[i] with
  | false => rfl
  | true =>
    obtain ⟨m, ⟨⟨hm, hpm⟩, hmin⟩, _⟩ := least (p := fun k => ∃ h : k < xs.length, p xs[k] = true) i ⟨hi, e⟩
    rw [fidx_at p xs m hm (fun j hj => by
      have := hmin j hj
      cases e : p (xs[j]'(by omega)) with
      | false => rfl
      | true => exact absurd ⟨by omega, e⟩ this) hpm] at h
    omega
structure MgI (az : List Ans) (out : List Ans) (now : List Int) : Prop where
  len : now.length = az.length
  img : ∀ i (h : i < az.length), ∃ h1 : i < now.length, 0 ≤ now[i] ∧ ∃ h2 : now[i].toNat < out.length, out[now[i].toNat] = az[i]
  dup : ∀ i j (hi : i < out.length) (hj : j < out.length), i ≠ j → out[i] ≠ out[j]
  le : out.length ≤ az.length
  src : ∀ p (h : p < out.length), out[p] ∈ az
theorem MgI.step {az out : List Ans} {now : List Int} {a : Ans} (h : MgI az out now) : MgI (az ++ [a]) (mgStep (out, now) a).1 (mgStep (out, now) a).2 := by
  have hl := h.len
  by_cases hi : fidx (eqA a) out < 0
  · have e : mgStep (out, now) a = (out ++ [a], now ++ [(out.length : Int)]) := by
      show (if _ then _ else _) = _
      rw [if_pos hi]
    rw [e]
    have hne : ∀ i (hi : i < out.length), out[i] ≠ a := fun i hx e => by
      have := fidx_miss _ _ hi i hx
      rw [(eqA_iff _ _).2 e.symm] at this
      cases this
    have key : ∀ i (ha : i < out.length), (out ++ [a])[i]'(by simp; omega) = out[i] := fun i ha => List.getElem_append_left ha
    have kl : (out ++ [a])[out.length]'(by simp) = a := by simp
    refine ⟨by simp [hl], fun i hx => ?_, fun i j hi hj hij => ?_, by simpa using h.le, fun p hp => ?_⟩
    · by_cases e1 : i < az.length
      · obtain ⟨h1, h2, h3, h4⟩ := h.img i e1
        refine ⟨by simp; omega, ?_⟩
        simp only [List.getElem_append_left h1]
        exact ⟨h2, by simp; omega, by rw [List.getElem_append_left e1, List.getElem_append_left h3]; exact h4⟩
      · obtain rfl : i = az.length := by simp at hx; omega
        refine ⟨by simp [hl], ?_⟩
        have e1 : (now ++ [(out.length : Int)])[az.length]'(by simp [hl]) = (out.length : Int) := by
          rw [List.getElem_append_right (by omega)]; simp
        simp only [e1]
        exact ⟨by omega, by simp, by simp⟩
    · simp at hi hj
      by_cases e1 : i < out.length
      · by_cases e2 : j < out.length
        · rw [key i e1, key j e2]; exact h.dup i j e1 e2 hij
        · obtain rfl : j = out.length := by omega
          rw [key i e1, kl]; exact hne i e1
      · obtain rfl : i = out.length := by omega
        have e2 : j < out.length := by omega
        rw [key j e2, kl]
        exact fun e => hne j e2 e.symm
    · by_cases e1 : p < out.length
      · rw [key p e1]; exact List.mem_append_left _ (h.src p e1)
      · obtain rfl : p = out.length := by simp at hp; omega
        rw [kl]; simp
  · have e : mgStep (out, now) a = (out, now ++ [fidx (eqA a) out]) := by
      show (if _ then _ else _) = _
      rw [if_neg hi]
    rw [e]
    obtain ⟨k, hk, hx, hp⟩ := fidx_hit (eqA a) out (by omega)
    refine ⟨by simp [hl], fun i hi => ?_, h.dup, by have := h.le; simp; omega, fun p hp => List.mem_append_left _ (h.src p hp)⟩
    by_cases e1 : i < az.length
    · obtain ⟨h1, h2, h3, h4⟩ := h.img i e1
      refine ⟨by simp; omega, ?_⟩
      simp only [List.getElem_append_left h1]
      exact ⟨h2, h3, by rw [List.getElem_append_left e1]; exact h4⟩
    · obtain rfl : i = az.length := by simp at hi; omega
      refine ⟨by simp [hl], ?_⟩
      have e1 : (now ++ [fidx (eqA a) out])[az.length]'(by simp [hl]) = (k : Int) := by
        rw [List.getElem_append_right (by omega)]; simp [hx]
      simp only [e1]
      refine ⟨by omega, by simpa using hk, ?_⟩
      simp only [Int.toNat_natCast]
      rw [((eqA_iff _ _).1 hp).symm]
      simp
theorem mg_inv : ∀ (n : Nat) (az : List Ans), az.length = n → MgI az (mg az).1 (mg az).2
  | 0, az, h => by
    obtain rfl : az = [] := List.length_eq_zero_iff.1 h
    exact ⟨rfl, fun i h => by simp at h, fun i j h => by simp [mg] at h, Nat.le_refl _, fun p h => by simp [mg] at h⟩
  | n + 1, az, h => by
    rcases List.eq_nil_or_concat az with rfl | ⟨l, a, rfl⟩
    · simp at h
    · rw [List.concat_eq_append, mg_snoc]
      exact (mg_inv n l (by simpa using h)).step
def nowAt (now : List Int) (a : Int) : Int := now.getD a.toNat 0
def ddStep (acc : List Pc) (p : Pc) : List Pc := if acc.getLast?.map Pc.an = some p.an then acc else acc ++ [p]
def ddp (ps : List Pc) : List Pc := ps.foldl ddStep []
theorem ddp_snoc (ps : List Pc) (p : Pc) : ddp (ps ++ [p]) = ddStep (ddp ps) p := by unfold ddp; rw [List.foldl_append]; rfl
structure DDI (ps acc : List Pc) : Prop where
  nil : ps = [] → acc = []
  pos : 0 < ps.length → 0 < acc.length
  le : acc.length ≤ ps.length
  sub : (acc.drop 1).Sublist (ps.drop 1)
  mem : ∀ x ∈ acc, x ∈ ps
  last : acc.getLast?.map Pc.an = ps.getLast?.map Pc.an
  at_ : ∀ t i (hi : i < ps.length), AtPc ps t i → ∃ j, ∃ hj : j < acc.length, AtPc acc t j ∧ acc[j].an = ps[i].an
theorem drop_mem {α : Type} {l : List α} {j : Nat} (h1 : 1 ≤ j) (h : j < l.length) : l[j] ∈ l.drop 1 := by
  rw [List.mem_iff_getElem]
  exact ⟨j - 1, by simp; omega, by simp only [List.getElem_drop]; congr 1; omega⟩
theorem mem_drop1 {α : Type} {l : List α} {x : α} (h : x ∈ l.drop 1) : ∃ j, ∃ hj : j < l.length, 1 ≤ j ∧ l[j] = x := by
  obtain ⟨i, hi, e⟩ := List.mem_iff_getElem.1 h
  rw [List.getElem_drop] at e
  exact ⟨1 + i, by simp at hi; omega, by omega, e⟩
theorem DDI.step {ps acc : List Pc} {p : Pc} (h : DDI ps acc) : DDI (ps ++ [p]) (ddStep acc p) := by
  by_cases h0 : ps = []
  · subst h0
    obtain rfl := h.nil rfl
    have e : ddStep [] p = [p] := rfl
    rw [e]
    exact ⟨fun h => by simp at h, fun _ => by simp, Nat.le_refl _, List.Sublist.refl _, fun x hx => hx, rfl, fun t i hi hat => ⟨i, hi, hat, rfl⟩⟩
  · have hp : 0 < ps.length := List.length_pos_iff.2 h0
    have ha := h.pos hp
    have hlast : (ps ++ [p]).getLast?.map Pc.an = some p.an := by simp
    have hps : ∀ i (hi : i < ps.length), (ps ++ [p])[i]'(by simp; omega) = ps[i] := fun i hi => List.getElem_append_left hi
    have hpl : (ps ++ [p])[ps.length]'(by simp) = p := by simp
    have hlow : ∀ t i, AtPc (ps ++ [p]) t i → i < ps.length → t < p.fr ∧ AtPc ps t i := fun t i hat hi => by
      obtain ⟨a1, a2⟩ := hat
      refine ⟨?_, fun j hj hij => ?_, fun j hj u v => ?_⟩
      · have := a1 ps.length (by simp) hi; rwa [hpl] at this
      · have := a1 j (by simp; omega) hij; rwa [hps j hj] at this
      · have := a2 j (by simp; omega) u v; rwa [hps j hj] at this
    have hall : ∀ t, AtPc (ps ++ [p]) t ps.length → p.fr ≤ t ∧ ∀ j (hj : j < acc.length), 1 ≤ j → acc[j].fr ≤ t := fun t hat => by
      obtain ⟨a1, a2⟩ := hat
      refine ⟨by have := a2 ps.length (by simp) (by omega) (Nat.le_refl _); rwa [hpl] at this, fun j hj h1 => ?_⟩
      obtain ⟨q, hq, hq1, e⟩ := mem_drop1 (h.sub.subset (drop_mem h1 hj))
      have := a2 q (by simp; omega) hq1 (by omega)
      rw [hps q hq, e] at this
      exact this
    by_cases hs : acc.getLast?.map Pc.an = some p.an
    · have e : ddStep acc p = acc := by unfold ddStep; rw [if_pos hs]
      rw [e]
      refine ⟨fun h => by simp at h, fun _ => ha, by have := h.le; simp; omega, ?_, fun x hx => List.mem_append_left _ (h.mem x hx), by rw [hlast, hs], fun t i hi hat => ?_⟩
      · rw [List.drop_append_of_le_length (by omega)]
        exact h.sub.trans (List.sublist_append_left _ _)
      · by_cases hlt : i < ps.length
        · rw [hps i hlt]
          exact h.at_ t i hlt (hlow t i hat hlt).2
        · obtain rfl : i = ps.length := by simp at hi; omega
          obtain ⟨b1, b2⟩ := hall t hat
          refine ⟨acc.length - 1, by omega, ⟨fun j hj hij => by omega, fun j hj u v => b2 j hj u⟩, ?_⟩
          rw [hpl]
          rw [List.getLast?_eq_getElem?, List.getElem?_eq_getElem (by omega)] at hs
          simpa using hs
    · have e : ddStep acc p = acc ++ [p] := by unfold ddStep; rw [if_neg hs]
      rw [e]
      have has : ∀ i (hi : i < acc.length), (acc ++ [p])[i]'(by simp; omega) = acc[i] := fun i hi => List.getElem_append_left hi
      have hal : (acc ++ [p])[acc.length]'(by simp) = p := by simp
      refine ⟨fun h => by simp at h, fun _ => by simp, by have := h.le; simp; omega, ?_, fun x hx => ?_, by simp, fun t i hi hat => ?_⟩
      · rw [List.drop_append_of_le_length (by omega), List.drop_append_of_le_length (by omega)]
        exact h.sub.append (List.Sublist.refl _)
      · rcases List.mem_append.1 hx with hx | hx
        · exact List.mem_append_left _ (h.mem x hx)
        · exact List.mem_append_right _ hx
      · by_cases hlt : i < ps.length
        · obtain ⟨c1, c2⟩ := hlow t i hat hlt
          obtain ⟨j, hj, ⟨d1, d2⟩, d3⟩ := h.at_ t i hlt c2
          refine ⟨j, by simp; omega, ⟨fun q hq hjq => ?_, fun q hq u v => ?_⟩, by rw [has j hj, hps i hlt]; exact d3⟩
          · by_cases e : q < acc.length
            · rw [has q e]; exact d1 q e hjq
            · obtain rfl : q = acc.length := by simp at hq; omega
              rw [hal]; exact c1
          · rw [has q (by omega)]; exact d2 q (by omega) u v
        · obtain rfl : i = ps.length := by simp at hi; omega
          obtain ⟨b1, b2⟩ := hall t hat
          refine ⟨acc.length, by simp, ⟨fun q hq hjq => by simp at hq; omega, fun q hq u v => ?_⟩, by rw [hal, hpl]⟩
          by_cases e : q < acc.length
          · rw [has q e]; exact b2 q e u
          · obtain rfl : q = acc.length := by omega
            rw [hal]; exact b1
theorem ddp_inv : ∀ (n : Nat) (ps : List Pc), ps.length = n → DDI ps (ddp ps)
  | 0, ps, h => by
    obtain rfl : ps = [] := List.length_eq_zero_iff.1 h
    exact ⟨fun _ => rfl, fun h => by simp at h, Nat.le_refl _, List.Sublist.refl _, fun x hx => hx, rfl, fun t i hi => by simp at hi⟩
  | n + 1, ps, h => by
    rcases List.eq_nil_or_concat ps with rfl | ⟨l, p, rfl⟩
    · simp at h
    · rw [List.concat_eq_append, ddp_snoc]
      exact (ddp_inv n l (by simpa using h)).step
theorem rise_pair {ps : List Pc} : RiseP ps ↔ ((ps.drop 1).map Pc.fr).Pairwise (· < ·) := by
  rw [List.pairwise_iff_getElem]
  constructor
  · intro hr i j hi hj hij
    simp only [List.getElem_map, List.getElem_drop]
    exact hr (1 + i) (1 + j) (by simp at hj; omega) (by omega) (by omega)
  · intro h i j hj h1 hij
    have := h (i - 1) (j - 1) (by simp; omega) (by simp; omega) (by omega)
    simp only [List.getElem_map, List.getElem_drop, show 1 + (i - 1) = i from by omega, show 1 + (j - 1) = j from by omega] at this
    exact this
theorem DDI.rise {ps acc : List Pc} (h : DDI ps acc) (hr : RiseP ps) : RiseP acc :=
  rise_pair.2 ((rise_pair.1 hr).sublist (h.sub.map _))
end Go.Proofs.Ytlhidbbphngpcaa
