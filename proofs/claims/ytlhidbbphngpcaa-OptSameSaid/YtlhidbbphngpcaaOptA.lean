/-
  tree.Opt, plain: what a forest tells between its bounds; a balanced tree of pieces.
-/
import Derived.Test.YtlhidbbphngpcaaChN
import Derived.Test.YtlhidbbphngpcaaSrt
namespace Go.Proofs.Ytlhidbbphngpcaa
set_option linter.unusedVariables false
set_option linter.unusedSimpArgs false
open Go.ChangeShapes Go.WideShapes Go.ChangeAt Go.RowKit

/-- as Lf, with how many nodes are asked. -/
inductive Lp (ns : List Nod) (t : Int) : Nat → Int → Nat → Prop
  | leaf (i : Nat) (h : i < ns.length) (e : ns[i].lf = true) : Lp ns t i ns[i].an 1
  | less (i k : Nat) (a : Int) (n : Nat) (h : i < ns.length) (e : ns[i].lf = false) (c : t < ns[i].bd) (hk : ns[i].ls = k) (hl : k < i) (r : Lp ns t k a n) : Lp ns t i a (n + 1)
  | more (i k : Nat) (a : Int) (n : Nat) (h : i < ns.length) (e : ns[i].lf = false) (c : ns[i].bd ≤ t) (hk : ns[i].mr = k) (hl : k < i) (r : Lp ns t k a n) : Lp ns t i a (n + 1)
theorem Lp.lf {ns : List Nod} {t : Int} {i : Nat} {a : Int} {n : Nat} (h : Lp ns t i a n) : Lf ns t i a := by
  induction h with
  | leaf i h e => exact Lf.leaf i h e
  | less i k a n h e c hk hl r ih => exact Lf.less i k a h e c hk hl ih
  | more i k a n h e c hk hl r ih => exact Lf.more i k a h e c hk hl ih
theorem Lf.lp {ns : List Nod} {t : Int} {i : Nat} {a : Int} (h : Lf ns t i a) : ∃ n, Lp ns t i a n := by
  induction h with
  | leaf i h e => exact ⟨1, Lp.leaf i h e⟩
  | less i k a h e c hk hl r ih => obtain ⟨n, ih⟩ := ih; exact ⟨n + 1, Lp.less i k a n h e c hk hl ih⟩
  | more i k a h e c hk hl r ih => obtain ⟨n, ih⟩ := ih; exact ⟨n + 1, Lp.more i k a n h e c hk hl ih⟩
theorem Lf.congr {ns : List Nod} {u t : Int} {i : Nat} {a : Int} (h : Lf ns u i a) (hb : ∀ n ∈ ns, n.lf = false → (n.bd ≤ u ↔ n.bd ≤ t)) : Lf ns t i a := by
  induction h with
  | leaf i h e => exact Lf.leaf i h e
  | less i k a h e c hk hl r ih => exact Lf.less i k a h e (by have := hb _ (List.getElem_mem h) e; omega) hk hl ih
  | more i k a h e c hk hl r ih => exact Lf.more i k a h e (by have := hb _ (List.getElem_mem h) e; omega) hk hl ih
theorem Lf.inv {ns : List Nod} {t : Int} {i : Nat} {b : Int} (h : Lf ns t i b) : ∃ hi : i < ns.length, (ns[i].lf = true ∧ b = ns[i].an) ∨ (ns[i].lf = false ∧ t < ns[i].bd ∧ ∃ k : Nat, ns[i].ls = k ∧ Lf ns t k b) ∨ (ns[i].lf = false ∧ ns[i].bd ≤ t ∧ ∃ k : Nat, ns[i].mr = k ∧ Lf ns t k b) := by
  induction h with
  | leaf i h e => exact ⟨h, .inl ⟨e, rfl⟩⟩
  | less i k a h e c hk hl r _ => exact ⟨h, .inr (.inl ⟨e, c, k, hk, r⟩)⟩
  | more i k a h e c hk hl r _ => exact ⟨h, .inr (.inr ⟨e, c, k, hk, r⟩)⟩
theorem Lf.one {ns : List Nod} {t : Int} {i : Nat} {a : Int} (h : Lf ns t i a) : ∀ {b : Int}, Lf ns t i b → a = b := by
  induction h with
  | leaf i h e =>
    intro b hb
    obtain ⟨_, ⟨e', h'⟩ | ⟨e', _⟩ | ⟨e', _⟩⟩ := hb.inv
    · exact h'.symm
    · rw [e] at e'; cases e'
    · rw [e] at e'; cases e'
  | less i k a h e c hk hl r ih =>
    intro b hb
    obtain ⟨_, ⟨e', h'⟩ | ⟨e', c', k', hk', r'⟩ | ⟨e', c', _⟩⟩ := hb.inv
    · rw [e] at e'; cases e'
    · have : k = k' := by have := hk.symm.trans hk'; omega
      subst this
      exact ih r'
    · omega
  | more i k a h e c hk hl r ih =>
    intro b hb
    obtain ⟨_, ⟨e', h'⟩ | ⟨e', c', _⟩ | ⟨e', c', k', hk', r'⟩⟩ := hb.inv
    · rw [e] at e'; cases e'
    · omega
    · have : k = k' := by have := hk.symm.trans hk'; omega
      subst this
      exact ih r'
/-- all bounds of a forest, sorted, each once; the least number of all left out. -/
def bnds (ns : List Nod) : List Int := (ns.filter fun n => !n.lf).map Nod.bd
def minI : Int := -9223372036854775808
def cuts (ns : List Nod) : List Int := (srtC (bnds ns)).filter fun x => x != minI
theorem bnds_mem {ns : List Nod} {n : Nod} (h : n ∈ ns) (e : n.lf = false) : n.bd ∈ bnds ns := by
  unfold bnds
  exact List.mem_map.2 ⟨n, List.mem_filter.2 ⟨h, by rw [e]; rfl⟩, rfl⟩
theorem cuts_mem (ns : List Nod) (x : Int) : x ∈ cuts ns ↔ x ∈ bnds ns ∧ x ≠ minI := by
  unfold cuts
  rw [List.mem_filter, srtC_mem]
  simp
theorem cuts_rise (ns : List Nod) : (cuts ns).Pairwise (· < ·) := (srtC_rise _).filter _
/-- pieces: from each number on the answer. F t: what is told for t. -/
def pcsOf (ns : List Nod) (F : Int → Int) : List Pc := ⟨0, F minI⟩ :: (cuts ns).map fun x => ⟨x, F x⟩
theorem pcsOf_len (ns : List Nod) (F : Int → Int) : (pcsOf ns F).length = (cuts ns).length + 1 := by simp [pcsOf]
/-- where a list that rises (but for its first) parts at t. -/
def AtPc (ps : List Pc) (t : Int) (i : Nat) : Prop := (∀ j (hj : j < ps.length), i < j → t < ps[j].fr) ∧ ∀ j (hj : j < ps.length), 1 ≤ j → j ≤ i → ps[j].fr ≤ t
theorem split_at' {A : List Int} (hA : A.Pairwise (· < ·)) (t : Int) : ∀ n, n ≤ A.length → ∃ i, i ≤ n ∧ (∀ j (hj : j < A.length), j < i → A[j] ≤ t) ∧ ∀ j (hj : j < A.length), i ≤ j → j < n → t < A[j]
  | 0, _ => ⟨0, Nat.le_refl _, fun j _ h => by omega, fun j _ _ h => by omega⟩
  | n + 1, hn => by
    obtain ⟨i, h1, h2, h3⟩ := split_at' hA t n (by omega)
    by_cases h : A[n] ≤ t
    · refine ⟨n + 1, Nat.le_refl _, fun j hj hlt => ?_, fun j _ a b => by omega⟩
      by_cases e : j = n
      · subst e; exact h
      · have := List.pairwise_iff_getElem.1 hA j n hj (by omega) (by omega)
        omega
    · refine ⟨i, by omega, h2, fun j hj a b => ?_⟩
      by_cases e : j = n
      · subst e; omega
      · exact h3 j hj a (by omega)
/-- pieces that rise part at every t. -/
def RiseP (ps : List Pc) : Prop := ∀ i j (hj : j < ps.length), 1 ≤ i → (h : i < j) → (ps[i]'(by omega)).fr < ps[j].fr
theorem atPc_ex {ps : List Pc} (h0 : 0 < ps.length) (hr : RiseP ps) (t : Int) : ∃ i, i < ps.length ∧ AtPc ps t i := by
  have hA : ((ps.drop 1).map Pc.fr).Pairwise (· < ·) := List.pairwise_iff_getElem.2 fun i j hi hj hij => by
    simp only [List.getElem_map, List.getElem_drop]
    exact hr (1 + i) (1 + j) (by simp at hj; omega) (by omega) (by omega)
  have hl : ((ps.drop 1).map Pc.fr).length = ps.length - 1 := by simp
  obtain ⟨i, h1, h2, h3⟩ := split_at' hA t _ (Nat.le_refl _)
  refine ⟨i, by omega, fun j hj hij => ?_, fun j hj a b => ?_⟩
  · have := h3 (j - 1) (by omega) (by omega) (by omega)
    simp only [List.getElem_map, List.getElem_drop, show 1 + (j - 1) = j from by omega] at this
    exact this
  · have := h2 (j - 1) (by omega) (by omega)
    simp only [List.getElem_map, List.getElem_drop, show 1 + (j - 1) = j from by omega] at this
    exact this
theorem pcsOf_at {ns : List Nod} {F : Int → Int} {i : Nat} (h : i + 1 < (pcsOf ns F).length) : (pcsOf ns F)[i + 1] = ⟨(cuts ns)[i]'(by rw [pcsOf_len] at h; omega), F ((cuts ns)[i]'(by rw [pcsOf_len] at h; omega))⟩ := by
  simp [pcsOf]
theorem pcsOf_rise (ns : List Nod) (F : Int → Int) : RiseP (pcsOf ns F) := fun i j hj h1 h => by
  obtain ⟨i, rfl⟩ : ∃ k, i = k + 1 := ⟨i - 1, by omega⟩
  obtain ⟨j, rfl⟩ : ∃ k, j = k + 1 := ⟨j - 1, by omega⟩
  rw [pcsOf_at hj, pcsOf_at (by omega)]
  exact List.pairwise_iff_getElem.1 (cuts_rise ns) i j _ _ (by omega)
/-- the piece at t tells what the forest tells for t. -/
theorem pcsOf_tells {ns : List Nod} {F : Int → Int} {r : Nat} (hB : ∀ n ∈ ns, minI ≤ n.bd) (hF : ∀ t, Lf ns t r (F t)) {t : Int} (ht : minI ≤ t) {i : Nat} (hi : i < (pcsOf ns F).length) (hat : AtPc (pcsOf ns F) t i) : (pcsOf ns F)[i].an = F t := by
  obtain ⟨h1, h2⟩ := hat
  match i, hi, h1, h2 with
  | 0, hi, h1, h2 =>
    show F minI = F t
    refine ((hF minI).congr fun n hn he => ?_).one (hF t)
    by_cases e : n.bd = minI
    · rw [e]; omega
    · obtain ⟨j, hj, hx⟩ := List.mem_iff_getElem.1 ((cuts_mem ns n.bd).2 ⟨bnds_mem hn he, e⟩)
      have := h1 (j + 1) (by rw [pcsOf_len]; omega) (by omega)
      rw [pcsOf_at (by rw [pcsOf_len]; omega)] at this
      dsimp only at this
      rw [hx] at this
      omega
  | i + 1, hi, h1, h2 =>
    rw [pcsOf_at hi]
    dsimp only
    have hi' : i < (cuts ns).length := by rw [pcsOf_len] at hi; omega
    refine ((hF _).congr fun n hn he => ?_).one (hF t)
    have hle := h2 (i + 1) hi (by omega) (by omega)
    rw [pcsOf_at hi] at hle
    dsimp only at hle
    by_cases e : n.bd = minI
    · rw [e]
      obtain ⟨m, hm, hm'⟩ := List.mem_map.1 ((cuts_mem ns _).1 (List.getElem_mem hi')).1
      have := hB m (List.mem_filter.1 hm).1
      omega
    · obtain ⟨j, hj, hx⟩ := List.mem_iff_getElem.1 ((cuts_mem ns n.bd).2 ⟨bnds_mem hn he, e⟩)
      rw [← hx]
      by_cases hji : j ≤ i
      · have : (cuts ns)[j] ≤ (cuts ns)[i] := by
          by_cases e' : j = i
          · subst e'; omega
          · have := List.pairwise_iff_getElem.1 (cuts_rise ns) j i hj hi' (by omega); omega
        omega
      · have h4 := h1 (j + 1) (by rw [pcsOf_len]; omega) (by omega)
        rw [pcsOf_at (by rw [pcsOf_len]; omega)] at h4
        have h5 := List.pairwise_iff_getElem.1 (cuts_rise ns) i j hi' hj (by omega)
        dsimp only at h4
        omega
end Go.Proofs.Ytlhidbbphngpcaa
