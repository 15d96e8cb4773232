/-
  Numbers, sorted, each once: plain.
  tree.Opt, plain: what a forest tells between its bounds; a balanced tree of pieces.
  tree.balanced, plain: a balanced tree of pieces.
  tree.shared, plain: trees that are the same are one.
  tree.merged, plain: answers that are the same are one, neighbours with one answer are one.
  tree.Opt, plain: sizes; the whole.
  tree.Opt, plain: what the forest that is made less tells, its size, its depth.
-/
import Derived.Lib.SlicesCompact
import Derived.Test.YtdpbedkppomffaaGreatDoorBase
import Derived.Test.YtdpbedkppomffaaGreatDoorTreeT
namespace Go.Proofs.YtdpbedkppomffaaGreatDoor
set_option linter.unusedVariables false
set_option linter.unusedSimpArgs false
open Go.ChangeShapes Go.WideShapes Go.ChangeAt Go.RowKit

def srt (zs : List Int) : List Int := zs.mergeSort fun x y => decide (x ≤ y)
theorem srt_perm (zs : List Int) : (srt zs).Perm zs := List.mergeSort_perm _ _
theorem srt_len (zs : List Int) : (srt zs).length = zs.length := (srt_perm zs).length_eq
theorem srt_mem (zs : List Int) (x : Int) : x ∈ srt zs ↔ x ∈ zs := (srt_perm zs).mem_iff
theorem srt_sorted (zs : List Int) : (srt zs).Pairwise (· ≤ ·) := by
  have h := List.pairwise_mergeSort (le := fun x y : Int => decide (x ≤ y)) (fun a b c => by simp; omega) (fun a b => by simp; omega) zs
  exact h.imp fun h => by simpa using h
/-- sorted, each once. -/
def srtC (zs : List Int) : List Int := Lib.compact (srt zs)
theorem upTo_facts {d : Array Int} (hs : ∀ i j, i < j → j < d.size → d[i]! ≤ d[j]!) : ∀ m, m ≤ d.size → (Lib.compactUpTo d m).Pairwise (· < ·) ∧ (∀ x, x ∈ Lib.compactUpTo d m ↔ ∃ i, i < m ∧ d[i]! = x)
  | 0, _ => by simp [Lib.compactUpTo]
  | m + 1, hm => by
    obtain ⟨h1, h2⟩ := upTo_facts hs m (by omega)
    rw [Lib.compactUpTo_succ]
    by_cases hk : Lib.keeps d m = true
    · rw [if_pos hk]
      refine ⟨?_, fun x => ?_⟩
      · rw [List.pairwise_append]
        refine ⟨h1, by simp, fun a ha b hb => ?_⟩
        obtain rfl : b = d[m]! := by simpa using hb
        obtain ⟨i, hi, rfl⟩ := (h2 a).1 ha
        have hk' : m = 0 ∨ d[m]! ≠ d[m - 1]! := by simpa [Lib.keeps] using hk
        have hm0 : 0 < m := by omega
        have hne : d[m]! ≠ d[m - 1]! := hk'.resolve_left (by omega)
        have h3 := hs (m - 1) m (by omega) (by omega)
        by_cases e : i = m - 1
        · subst e; omega
        · have := hs i (m - 1) (by omega) (by omega)
          omega
      · rw [List.mem_append, h2]
        constructor
        · rintro (⟨i, hi, rfl⟩ | h)
          · exact ⟨i, by omega, rfl⟩
          · exact ⟨m, by omega, (List.mem_singleton.1 h).symm⟩
        · rintro ⟨i, hi, rfl⟩
          by_cases e : i = m
          · subst e; exact .inr (by simp)
          · exact .inl ⟨i, by omega, rfl⟩
    · rw [if_neg hk, List.append_nil]
      refine ⟨h1, fun x => ?_⟩
      rw [h2]
      have hk' : ¬ (m = 0 ∨ d[m]! ≠ d[m - 1]!) := by simpa [Lib.keeps] using hk
      have hm0 : 0 < m := by omega
      have he : d[m]! = d[m - 1]! := by
        by_cases e : d[m]! = d[m - 1]!
        · exact e
        · exact absurd (Or.inr e) hk'
      constructor
      · rintro ⟨i, hi, rfl⟩
        exact ⟨i, by omega, rfl⟩
      · rintro ⟨i, hi, rfl⟩
        by_cases e : i = m
        · subst e; exact ⟨i - 1, by omega, he.symm⟩
        · exact ⟨i, by omega, rfl⟩
theorem arr_sorted {zs : List Int} (h : zs.Pairwise (· ≤ ·)) : ∀ i j, i < j → j < zs.toArray.size → zs.toArray[i]! ≤ zs.toArray[j]! := by
  intro i j hij hj
  have hj' : j < zs.length := by simpa using hj
  rw [getElem!_pos zs.toArray i (by simp; omega), getElem!_pos zs.toArray j hj]
  simp only [List.getElem_toArray]
  exact List.pairwise_iff_getElem.1 h i j (by omega) hj' hij
theorem srtC_rise (zs : List Int) : (srtC zs).Pairwise (· < ·) := (upTo_facts (arr_sorted (srt_sorted zs)) _ (by simp)).1
theorem srtC_mem (zs : List Int) (x : Int) : x ∈ srtC zs ↔ x ∈ zs := by
  unfold srtC Lib.compact
  rw [(upTo_facts (arr_sorted (srt_sorted zs)) _ (by simp)).2, ← srt_mem]
  constructor
  · rintro ⟨i, hi, rfl⟩
    rw [getElem!_pos (srt zs).toArray i (by simpa using hi)]
    simp
  · intro h
    obtain ⟨i, hi, rfl⟩ := List.mem_iff_getElem.1 h
    exact ⟨i, hi, by rw [getElem!_pos (srt zs).toArray i (by simpa using hi)]; simp⟩
theorem compact_le (zs : List Int) : (Lib.compact zs).length ≤ zs.length := by
  unfold Lib.compact Lib.compactUpTo
  rw [List.length_map]
  exact Nat.le_trans (List.length_filter_le _ _) (by simp)
theorem srtC_len (zs : List Int) : (srtC zs).length ≤ zs.length := Nat.le_trans (compact_le _) (by rw [srt_len]; exact Nat.le_refl _)
end Go.Proofs.YtdpbedkppomffaaGreatDoor
namespace Go.Proofs.YtdpbedkppomffaaGreatDoor
set_option linter.unusedVariables false
set_option linter.unusedSimpArgs false
open Go.ChangeShapes Go.WideShapes Go.ChangeAt Go.RowKit

/-- as Lf, with how many nodes are asked. -/
inductive Lp (ns : List Nod) (t : Int) : Nat → Int → Nat → Prop
  | leaf (i : Nat) (h : i < ns.length) (e : ns[i].lf = true) : Lp ns t i ns[i].an 1
  | less (i k : Nat) (a : Int) (n : Nat) (h : i < ns.length) (e : ns[i].lf = false) (c : t < ns[i].bd) (hk : ns[i].ls = k) (hl : k < i) (r : Lp ns t k a n) : Lp ns t i a (n + 1)
  | more (i k : Nat) (a : Int) (n : Nat) (h : i < ns.length) (e : ns[i].lf = false) (c : ns[i].bd ≤ t) (hk : ns[i].mr = k) (hl : k < i) (r : Lp ns t k a n) : Lp ns t i a (n + 1)
theorem Lp.lf {ns : List Nod} {t : Int} {i : Nat} {a : Int} {n : Nat} (h : Lp ns t i a n) : Lf ns t i a := by
  induction h with
  | leaf i h e => exact Lf.leaf i h e
  | less i k a n h e c hk hl r ih => exact Lf.less i k a h e c hk hl ih
  | more i k a n h e c hk hl r ih => exact Lf.more i k a h e c hk hl ih
theorem Lf.lp {ns : List Nod} {t : Int} {i : Nat} {a : Int} (h : Lf ns t i a) : ∃ n, Lp ns t i a n := by
  induction h with
  | leaf i h e => exact ⟨1, Lp.leaf i h e⟩
  | less i k a h e c hk hl r ih => obtain ⟨n, ih⟩ := ih; exact ⟨n + 1, Lp.less i k a n h e c hk hl ih⟩
  | more i k a h e c hk hl r ih => obtain ⟨n, ih⟩ := ih; exact ⟨n + 1, Lp.more i k a n h e c hk hl ih⟩
theorem Lf.congr {ns : List Nod} {u t : Int} {i : Nat} {a : Int} (h : Lf ns u i a) (hb : ∀ n ∈ ns, n.lf = false → (n.bd ≤ u ↔ n.bd ≤ t)) : Lf ns t i a := by
  induction h with
  | leaf i h e => exact Lf.leaf i h e
  | less i k a h e c hk hl r ih => exact Lf.less i k a h e (by have := hb _ (List.getElem_mem h) e; omega) hk hl ih
  | more i k a h e c hk hl r ih => exact Lf.more i k a h e (by have := hb _ (List.getElem_mem h) e; omega) hk hl ih
theorem Lf.inv {ns : List Nod} {t : Int} {i : Nat} {b : Int} (h : Lf ns t i b) : ∃ hi : i < ns.length, (ns[i].lf = true ∧ b = ns[i].an) ∨ (ns[i].lf = false ∧ t < ns[i].bd ∧ ∃ k : Nat, ns[i].ls = k ∧ Lf ns t k b) ∨ (ns[i].lf = false ∧ ns[i].bd ≤ t ∧ ∃ k : Nat, ns[i].mr = k ∧ Lf ns t k b) := by
  induction h with
  | leaf i h e => exact ⟨h, .inl ⟨e, rfl⟩⟩
  | less i k a h e c hk hl r _ => exact ⟨h, .inr (.inl ⟨e, c, k, hk, r⟩)⟩
  | more i k a h e c hk hl r _ => exact ⟨h, .inr (.inr ⟨e, c, k, hk, r⟩)⟩
theorem Lf.one {ns : List Nod} {t : Int} {i : Nat} {a : Int} (h : Lf ns t i a) : ∀ {b : Int}, Lf ns t i b → a = b := by
  induction h with
  | leaf i h e =>
    intro b hb
    obtain ⟨_, ⟨e', h'⟩ | ⟨e', _⟩ | ⟨e', _⟩⟩ := hb.inv
    · exact h'.symm
    · rw [e] at e'; cases e'
    · rw [e] at e'; cases e'
  | less i k a h e c hk hl r ih =>
    intro b hb
    obtain ⟨_, ⟨e', h'⟩ | ⟨e', c', k', hk', r'⟩ | ⟨e', c', _⟩⟩ := hb.inv
    · rw [e] at e'; cases e'
    · have : k = k' := by have := hk.symm.trans hk'; omega
      subst this
      exact ih r'
    · omega
  | more i k a h e c hk hl r ih =>
    intro b hb
    obtain ⟨_, ⟨e', h'⟩ | ⟨e', c', _⟩ | ⟨e', c', k', hk', r'⟩⟩ := hb.inv
    · rw [e] at e'; cases e'
    · omega
    · have : k = k' := by have := hk.symm.trans hk'; omega
      subst this
      exact ih r'
/-- all bounds of a forest, sorted, each once; the least number of all left out. -/
def bnds (ns : List Nod) : List Int := (ns.filter fun n => !n.lf).map Nod.bd
def minI : Int := -9223372036854775808
def cuts (ns : List Nod) : List Int := (srtC (bnds ns)).filter fun x => x != minI
theorem bnds_mem {ns : List Nod} {n : Nod} (h : n ∈ ns) (e : n.lf = false) : n.bd ∈ bnds ns := by
  unfold bnds
  exact List.mem_map.2 ⟨n, List.mem_filter.2 ⟨h, by rw [e]; rfl⟩, rfl⟩
theorem cuts_mem (ns : List Nod) (x : Int) : x ∈ cuts ns ↔ x ∈ bnds ns ∧ x ≠ minI := by
  unfold cuts
  rw [List.mem_filter, srtC_mem]
  simp
theorem cuts_rise (ns : List Nod) : (cuts ns).Pairwise (· < ·) := (srtC_rise _).filter _
/-- pieces: from each number on the answer. F t: what is told for t. -/
def pcsOf (ns : List Nod) (F : Int → Int) : List Pc := ⟨0, F minI⟩ :: (cuts ns).map fun x => ⟨x, F x⟩
theorem pcsOf_len (ns : List Nod) (F : Int → Int) : (pcsOf ns F).length = (cuts ns).length + 1 := by simp [pcsOf]
/-- where a list that rises (but for its first) parts at t. -/
def AtPc (ps : List Pc) (t : Int) (i : Nat) : Prop := (∀ j (hj : j < ps.length), i < j → t < ps[j].fr) ∧ ∀ j (hj : j < ps.length), 1 ≤ j → j ≤ i → ps[j].fr ≤ t
theorem split_at' {A : List Int} (hA : A.Pairwise (· < ·)) (t : Int) : ∀ n, n ≤ A.length → ∃ i, i ≤ n ∧ (∀ j (hj : j < A.length), j < i → A[j] ≤ t) ∧ ∀ j (hj : j < A.length), i ≤ j → j < n → t < A[j]
  | 0, _ => ⟨0, Nat.le_refl _, fun j _ h => by omega, fun j _ _ h => by omega⟩
  | n + 1, hn => by
    obtain ⟨i, h1, h2, h3⟩ := split_at' hA t n (by omega)
    by_cases h : A[n] ≤ t
    · refine ⟨n + 1, Nat.le_refl _, fun j hj hlt => ?_, fun j _ a b => by omega⟩
      by_cases e : j = n
      · subst e; exact h
      · have := List.pairwise_iff_getElem.1 hA j n hj (by omega) (by omega)
        omega
    · refine ⟨i, by omega, h2, fun j hj a b => ?_⟩
      by_cases e : j = n
      · subst e; omega
      · exact h3 j hj a (by omega)
/-- pieces that rise part at every t. -/
def RiseP (ps : List Pc) : Prop := ∀ i j (hj : j < ps.length), 1 ≤ i → (h : i < j) → (ps[i]'(by omega)).fr < ps[j].fr
theorem atPc_ex {ps : List Pc} (h0 : 0 < ps.length) (hr : RiseP ps) (t : Int) : ∃ i, i < ps.length ∧ AtPc ps t i := by
  have hA : ((ps.drop 1).map Pc.fr).Pairwise (· < ·) := List.pairwise_iff_getElem.2 fun i j hi hj hij => by
    simp only [List.getElem_map, List.getElem_drop]
    exact hr (1 + i) (1 + j) (by simp at hj; omega) (by omega) (by omega)
  have hl : ((ps.drop 1).map Pc.fr).length = ps.length - 1 := by simp
  obtain ⟨i, h1, h2, h3⟩ := split_at' hA t _ (Nat.le_refl _)
  refine ⟨i, by omega, fun j hj hij => ?_, fun j hj a b => ?_⟩
  · have := h3 (j - 1) (by omega) (by omega) (by omega)
    simp only [List.getElem_map, List.getElem_drop, show 1 + (j - 1) = j from by omega] at this
    exact this
  · have := h2 (j - 1) (by omega) (by omega)
    simp only [List.getElem_map, List.getElem_drop, show 1 + (j - 1) = j from by omega] at this
    exact this
theorem pcsOf_at {ns : List Nod} {F : Int → Int} {i : Nat} (h : i + 1 < (pcsOf ns F).length) : (pcsOf ns F)[i + 1] = ⟨(cuts ns)[i]'(by rw [pcsOf_len] at h; omega), F ((cuts ns)[i]'(by rw [pcsOf_len] at h; omega))⟩ := by
  simp [pcsOf]
theorem pcsOf_rise (ns : List Nod) (F : Int → Int) : RiseP (pcsOf ns F) := fun i j hj h1 h => by
  obtain ⟨i, rfl⟩ : ∃ k, i = k + 1 := ⟨i - 1, by omega⟩
  obtain ⟨j, rfl⟩ : ∃ k, j = k + 1 := ⟨j - 1, by omega⟩
  rw [pcsOf_at hj, pcsOf_at (by omega)]
  exact List.pairwise_iff_getElem.1 (cuts_rise ns) i j _ _ (by omega)
/-- the piece at t tells what the forest tells for t. -/
theorem pcsOf_tells {ns : List Nod} {F : Int → Int} {r : Nat} (hB : ∀ n ∈ ns, minI ≤ n.bd) (hF : ∀ t, Lf ns t r (F t)) {t : Int} (ht : minI ≤ t) {i : Nat} (hi : i < (pcsOf ns F).length) (hat : AtPc (pcsOf ns F) t i) : (pcsOf ns F)[i].an = F t := by
  obtain ⟨h1, h2⟩ := hat
  match i, hi, h1, h2 with
  | 0, hi, h1, h2 =>
    show F minI = F t
    refine ((hF minI).congr fun n hn he => ?_).one (hF t)
    by_cases e : n.bd = minI
    · rw [e]; omega
    · obtain ⟨j, hj, hx⟩ := List.mem_iff_getElem.1 ((cuts_mem ns n.bd).2 ⟨bnds_mem hn he, e⟩)
      have := h1 (j + 1) (by rw [pcsOf_len]; omega) (by omega)
      rw [pcsOf_at (by rw [pcsOf_len]; omega)] at this
      dsimp only at this
      rw [hx] at this
      omega
  | i + 1, hi, h1, h2 =>
    rw [pcsOf_at hi]
    dsimp only
    have hi' : i < (cuts ns).length := by rw [pcsOf_len] at hi; omega
    refine ((hF _).congr fun n hn he => ?_).one (hF t)
    have hle := h2 (i + 1) hi (by omega) (by omega)
    rw [pcsOf_at hi] at hle
    dsimp only at hle
    by_cases e : n.bd = minI
    · rw [e]
      obtain ⟨m, hm, hm'⟩ := List.mem_map.1 ((cuts_mem ns _).1 (List.getElem_mem hi')).1
      have := hB m (List.mem_filter.1 hm).1
      omega
    · obtain ⟨j, hj, hx⟩ := List.mem_iff_getElem.1 ((cuts_mem ns n.bd).2 ⟨bnds_mem hn he, e⟩)
      rw [← hx]
      by_cases hji : j ≤ i
      · have : (cuts ns)[j] ≤ (cuts ns)[i] := by
          by_cases e' : j = i
          · subst e'; omega
          · have := List.pairwise_iff_getElem.1 (cuts_rise ns) j i hj hi' (by omega); omega
        omega
      · have h4 := h1 (j + 1) (by rw [pcsOf_len]; omega) (by omega)
        rw [pcsOf_at (by rw [pcsOf_len]; omega)] at h4
        have h5 := List.pairwise_iff_getElem.1 (cuts_rise ns) i j hi' hj (by omega)
        dsimp only at h4
        omega
end Go.Proofs.YtdpbedkppomffaaGreatDoor
namespace Go.Proofs.YtdpbedkppomffaaGreatDoor
set_option linter.unusedVariables false
set_option linter.unusedSimpArgs false
open Go.ChangeShapes Go.WideShapes Go.ChangeAt Go.RowKit

def frAt (l : List Pc) (k : Nat) : Int := match l[k]? with | some p => p.fr | none => 0
def anAt (l : List Pc) (k : Nat) : Int := match l[k]? with | some p => p.an | none => 0
theorem frAt_eq {l : List Pc} {k : Nat} (h : k < l.length) : frAt l k = l[k].fr := by unfold frAt; rw [List.getElem?_eq_getElem h]
theorem anAt_eq {l : List Pc} {k : Nat} (h : k < l.length) : anAt l k = l[k].an := by unfold anAt; rw [List.getElem?_eq_getElem h]
/-- the balanced tree of l behind b nodes. -/
def balF : Nat → List Pc → Nat → List Nod
  | 0, _, _ => []
  | F + 1, l, b =>
    if l.length ≤ 1 then [leafN (anAt l 0)]
    else balF F (l.take (l.length / 2)) b ++ balF F (l.drop (l.length / 2)) (b + (2 * (l.length / 2) - 1)) ++
      [askN (frAt l (l.length / 2)) ((b + (2 * (l.length / 2) - 1) - 1 : Nat) : Int) ((b + (2 * l.length - 2) - 1 : Nat) : Int)]
theorem balF_one {F : Nat} {l : List Pc} {b : Nat} (h : l.length ≤ 1) : balF (F + 1) l b = [leafN (anAt l 0)] := by
  show (if _ then _ else _) = _
  rw [if_pos h]
theorem balF_two {F : Nat} {l : List Pc} {b : Nat} (h : ¬ l.length ≤ 1) : balF (F + 1) l b = balF F (l.take (l.length / 2)) b ++ balF F (l.drop (l.length / 2)) (b + (2 * (l.length / 2) - 1)) ++
      [askN (frAt l (l.length / 2)) ((b + (2 * (l.length / 2) - 1) - 1 : Nat) : Int) ((b + (2 * l.length - 2) - 1 : Nat) : Int)] := by
  show (if _ then _ else _) = _
  rw [if_neg h]
theorem balF_len : ∀ (F : Nat) (l : List Pc) (b : Nat), 0 < l.length → l.length ≤ F → (balF F l b).length = 2 * l.length - 1
  | 0, l, b, h0, h => by omega
  | F + 1, l, b, h0, h => by
    by_cases h1 : l.length ≤ 1
    · rw [balF_one h1]; simp; omega
    · rw [balF_two h1, List.length_append, List.length_append, balF_len F _ _ (by rw [List.length_take]; omega) (by rw [List.length_take]; omega), balF_len F _ _ (by rw [List.length_drop]; omega) (by rw [List.length_drop]; omega), List.length_take, List.length_drop]
      simp
      omega
theorem Lp.append {ns : List Nod} (ms : List Nod) {t : Int} {i : Nat} {a : Int} {n : Nat} (h : Lp ns t i a n) : Lp (ns ++ ms) t i a n := by
  induction h with
  | leaf i h e =>
    have e1 : (ns ++ ms)[i]'(by rw [List.length_append]; omega) = ns[i] := List.getElem_append_left h
    have := Lp.leaf (ns := ns ++ ms) (t := t) i (by rw [List.length_append]; omega) (by rw [e1]; exact e)
    rw [e1] at this
    exact this
  | less i k a n h e c hk hl r ih =>
    have e1 : (ns ++ ms)[i]'(by rw [List.length_append]; omega) = ns[i] := List.getElem_append_left h
    exact Lp.less i k a n (by rw [List.length_append]; omega) (by rw [e1]; exact e) (by rw [e1]; exact c) (by rw [e1]; exact hk) hl ih
  | more i k a n h e c hk hl r ih =>
    have e1 : (ns ++ ms)[i]'(by rw [List.length_append]; omega) = ns[i] := List.getElem_append_left h
    exact Lp.more i k a n (by rw [List.length_append]; omega) (by rw [e1]; exact e) (by rw [e1]; exact c) (by rw [e1]; exact hk) hl ih
theorem last_at (A : List Nod) (x : Nod) : ∃ h : A.length < (A ++ [x]).length, (A ++ [x])[A.length] = x := ⟨by simp, by simp⟩
/-- which piece a balanced tree tells, and how many nodes are asked. -/
theorem bal_lp (t : Int) : ∀ (F : Nat) (l : List Pc) (pre : List Nod) (i m : Nat) (h : i < l.length), l.length ≤ F → l.length ≤ 2 ^ m → AtPc l t i →
    ∃ n, n ≤ m + 1 ∧ Lp (pre ++ balF F l pre.length) t (pre.length + (2 * l.length - 1) - 1) l[i].an n
  | 0, l, pre, i, m, h, hF, _, _ => by omega
  | F + 1, l, pre, i, m, h, hF, hm, hat => by
    by_cases h1 : l.length ≤ 1
    · obtain rfl : i = 0 := by omega
      rw [balF_one h1]
      obtain ⟨hl, hx⟩ := last_at pre (leafN (anAt l 0))
      refine ⟨1, by omega, ?_⟩
      have := Lp.leaf (ns := pre ++ [leafN (anAt l 0)]) (t := t) pre.length hl (by rw [hx]; rfl)
      rw [hx] at this
      rw [show pre.length + (2 * l.length - 1) - 1 = pre.length by omega, ← anAt_eq (by omega)]
      exact this
    · obtain ⟨m, rfl⟩ : ∃ q, m = q + 1 := by
        cases m with
        | zero => simp at hm; omega
        | succ q => exact ⟨q, rfl⟩
      have hp : 2 ^ (m + 1) = 2 * 2 ^ m := by rw [Nat.pow_succ]; omega
      obtain ⟨a1, a2⟩ := hat
      rw [balF_two h1]
      obtain ⟨k, hk⟩ : ∃ k, k = l.length / 2 := ⟨_, rfl⟩
      rw [← hk]
      have hk1 : 1 ≤ k := by omega
      have hk2 : k < l.length := by omega
      have htl : (l.take k).length = k := by rw [List.length_take]; omega
      have hdl : (l.drop k).length = l.length - k := by rw [List.length_drop]
      have hAl : (balF F (l.take k) pre.length).length = 2 * k - 1 := by rw [balF_len F _ _ (by omega) (by omega), htl]
      have hBl : (balF F (l.drop k) (pre.length + (2 * k - 1))).length = 2 * (l.length - k) - 1 := by rw [balF_len F _ _ (by omega) (by omega), hdl]
      generalize hA : balF F (l.take k) pre.length = A at *
      generalize hB : balF F (l.drop k) (pre.length + (2 * k - 1)) = B at *
      obtain ⟨hl, hx⟩ := last_at (pre ++ (A ++ B)) (askN (frAt l k) ((pre.length + (2 * k - 1) - 1 : Nat) : Int) ((pre.length + (2 * l.length - 2) - 1 : Nat) : Int))
      have hpl : (pre ++ (A ++ B)).length = pre.length + (2 * l.length - 1) - 1 := by rw [List.length_append, List.length_append, hAl, hBl]; omega
      rw [show pre ++ (A ++ B ++ [askN (frAt l k) ((pre.length + (2 * k - 1) - 1 : Nat) : Int) ((pre.length + (2 * l.length - 2) - 1 : Nat) : Int)]) = pre ++ (A ++ B) ++ [askN (frAt l k) ((pre.length + (2 * k - 1) - 1 : Nat) : Int) ((pre.length + (2 * l.length - 2) - 1 : Nat) : Int)] by simp only [List.append_assoc]]
      rw [← hpl]
      by_cases hik : i < k
      · obtain ⟨n, hn, hL⟩ := bal_lp t F (l.take k) pre i m (by omega) (by omega) (by omega) ⟨fun j hj hij => by
          rw [List.getElem_take]; exact a1 j (by omega) hij, fun j hj u v => by rw [List.getElem_take]; exact a2 j (by omega) u v⟩
        rw [hA] at hL; simp only [List.getElem_take, htl] at hL
        refine ⟨n + 1, by omega, Lp.less _ (pre.length + (2 * k - 1) - 1) _ n hl (by rw [hx]; rfl) (by rw [hx]; show t < frAt l k; rw [frAt_eq hk2]; exact a1 k hk2 hik) (by rw [hx]; rfl) (by omega) ?_⟩
        have := (hL.append B).append [askN (frAt l k) ((pre.length + (2 * k - 1) - 1 : Nat) : Int) ((pre.length + (2 * l.length - 2) - 1 : Nat) : Int)]
        rwa [List.append_assoc pre A B] at this
      · obtain ⟨n, hn, hL⟩ := bal_lp t F (l.drop k) (pre ++ A) (i - k) m (by omega) (by omega) (by omega) ⟨fun j hj hij => by
          rw [List.getElem_drop]; exact a1 (k + j) (by omega) (by omega), fun j hj u v => by rw [List.getElem_drop]; exact a2 (k + j) (by omega) (by omega) (by omega)⟩
        rw [List.length_append, hAl, hB] at hL; simp only [List.getElem_drop, hdl] at hL
        have hik' : k + (i - k) = i := by omega
        simp only [hik'] at hL
        refine ⟨n + 1, by omega, Lp.more _ (pre.length + (2 * l.length - 2) - 1) _ n hl (by rw [hx]; rfl) (by rw [hx]; show frAt l k ≤ t; rw [frAt_eq hk2]; exact a2 k hk2 hk1 (by omega)) (by rw [hx]; rfl) (by omega) ?_⟩
        rw [show pre.length + (2 * k - 1) + (2 * (l.length - k) - 1) - 1 = pre.length + (2 * l.length - 2) - 1 by omega] at hL
        have := hL.append [askN (frAt l k) ((pre.length + (2 * k - 1) - 1 : Nat) : Int) ((pre.length + (2 * l.length - 2) - 1 : Nat) : Int)]
        rwa [List.append_assoc pre A B] at this
theorem good_app {c : Int} {A B : List Nod} {x : Nod} {b : Nat} (gA : ∀ i (hi : i < A.length), nodE c ((b + i : Nat) : Int) A[i] = 0) (gB : ∀ i (hi : i < B.length), nodE c ((b + A.length + i : Nat) : Int) B[i] = 0) (gx : nodE c ((b + A.length + B.length : Nat) : Int) x = 0) :
    ∀ i (hi : i < (A ++ B ++ [x]).length), nodE c ((b + i : Nat) : Int) (A ++ B ++ [x])[i] = 0 := by
  intro i hi
  by_cases i1 : i < A.length
  · rw [List.getElem_append_left (by rw [List.length_append]; omega), List.getElem_append_left i1]
    exact gA i i1
  · by_cases i2 : i < A.length + B.length
    · rw [List.getElem_append_left (by rw [List.length_append]; omega), List.getElem_append_right (by omega)]
      have := gB (i - A.length) (by omega)
      rw [show b + A.length + (i - A.length) = b + i by omega] at this
      exact this
    · have hi3 : i = A.length + B.length := by simp at hi; omega
      subst hi3
      rw [List.getElem_append_right (by rw [List.length_append]; omega)]
      simp only [List.length_append, Nat.sub_self, List.getElem_cons_zero]
      rw [← Nat.add_assoc]
      exact gx
theorem bal_good (c : Int) : ∀ (F : Nat) (l : List Pc) (b : Nat), 0 < l.length → l.length ≤ F → (∀ p ∈ l, 0 ≤ p.an ∧ p.an < c) → ∀ i (hi : i < (balF F l b).length), nodE c ((b + i : Nat) : Int) (balF F l b)[i] = 0
  | 0, l, b, h0, h, _ => by omega
  | F + 1, l, b, h0, h, hp => by
    by_cases h1 : l.length ≤ 1
    · rw [balF_one h1]
      intro i hi
      obtain rfl : i = 0 := by simpa using hi
      have := hp l[0] (List.getElem_mem h0)
      rw [← anAt_eq] at this
      show nodE c _ (leafN (anAt l 0)) = 0
      unfold nodE leafN
      rw [if_pos rfl, if_neg (by dsimp only; omega), if_neg (by simp)]
    · rw [balF_two h1]
      obtain ⟨k, hk⟩ : ∃ k, k = l.length / 2 := ⟨_, rfl⟩
      rw [← hk]
      have htl : (l.take k).length = k := by rw [List.length_take]; omega
      have hdl : (l.drop k).length = l.length - k := by rw [List.length_drop]
      have hAl : (balF F (l.take k) b).length = 2 * k - 1 := by rw [balF_len F _ _ (by omega) (by omega), htl]
      have hBl : (balF F (l.drop k) (b + (2 * k - 1))).length = 2 * (l.length - k) - 1 := by rw [balF_len F _ _ (by omega) (by omega), hdl]
      have gA := bal_good c F (l.take k) b (by omega) (by omega) (fun p h => hp p (List.mem_of_mem_take h))
      have gB := bal_good c F (l.drop k) (b + (2 * k - 1)) (by omega) (by omega) (fun p h => hp p (List.mem_of_mem_drop h))
      refine good_app gA (by rw [hAl]; exact gB) ?_
      rw [hAl, hBl]
      unfold nodE askN
      rw [if_neg (by simp), if_neg (by simp), if_neg (by dsimp only; omega)]
end Go.Proofs.YtdpbedkppomffaaGreatDoor
namespace Go.Proofs.YtdpbedkppomffaaGreatDoor
set_option linter.unusedVariables false
set_option linter.unusedSimpArgs false
open Go.ChangeShapes Go.WideShapes Go.ChangeAt Go.RowKit

def renN (now : List Nat) (n : Nod) : Nod := if n.lf = true then n else ⟨n.lf, n.an, n.bd, ((now.getD n.ls.toNat 0 : Nat) : Int), ((now.getD n.mr.toNat 0 : Nat) : Int)⟩
/-- the first k nodes are laid: out, and where each has come to. -/
structure ShI (ns : List Nod) (k : Nat) (out : List Nod) (now : List Nat) : Prop where
  len : now.length = k
  le : k ≤ ns.length
  img : ∀ i (h : i < k), ∃ h' : i < ns.length, ∃ h1 : i < now.length, ∃ h2 : now[i] < out.length, out[now[i]] = renN now ns[i]
  dup : ∀ i j (hi : i < out.length) (hj : j < out.length), i ≠ j → out[i] ≠ out[j]
  fst : ∀ p (h : p < out.length), ∃ i, i < k ∧ ∃ h1 : i < now.length, now[i] = p ∧ ∀ j (hj : j < i), now[j]'(by omega) < p
theorem ShI.zero (ns : List Nod) : ShI ns 0 [] [] := ⟨rfl, Nat.zero_le _, fun i h => by omega, fun i j h => by simp at h, fun p h => by simp at h⟩
theorem renN_lf (now : List Nat) (n : Nod) : (renN now n).lf = n.lf := by unfold renN; split <;> simp_all
theorem renN_an (now : List Nat) (n : Nod) : (renN now n).an = n.an := by unfold renN; split <;> simp_all
theorem renN_bd (now : List Nat) (n : Nod) : (renN now n).bd = n.bd := by unfold renN; split <;> simp_all
theorem renN_leaf {now : List Nat} {n : Nod} (h : n.lf = true) : renN now n = n := by unfold renN; rw [if_pos h]
theorem renN_ask {now : List Nat} {n : Nod} (h : n.lf = false) : renN now n = ⟨n.lf, n.an, n.bd, ((now.getD n.ls.toNat 0 : Nat) : Int), ((now.getD n.mr.toNat 0 : Nat) : Int)⟩ := by unfold renN; rw [if_neg (by rw [h]; simp)]
theorem nod_ask {m i : Int} {n : Nod} (h : nodE m i n = 0) (e : n.lf = false) : n.an = 0 ∧ 0 ≤ n.ls ∧ n.ls < i ∧ 0 ≤ n.mr ∧ n.mr < i := by
  have hc := nodE_cases m i n
  rw [e, h] at hc
  simp at hc
  omega
theorem nod_leaf {m i : Int} {n : Nod} (h : nodE m i n = 0) (e : n.lf = true) : 0 ≤ n.an ∧ n.an < m ∧ n.bd = 0 ∧ n.ls = 0 ∧ n.mr = 0 := by
  have hc := nodE_cases m i n
  rw [e, h] at hc
  simp at hc
  omega
theorem getD_snoc {now : List Nat} {x j : Nat} (h : j < now.length) : (now ++ [x]).getD j 0 = now.getD j 0 := by
  rw [List.getD_eq_getElem?_getD, List.getD_eq_getElem?_getD, List.getElem?_append_left h]
theorem renN_snoc {now : List Nat} {x : Nat} {n : Nod} {m i : Int} (h : nodE m i n = 0) (hi : i ≤ now.length) : renN (now ++ [x]) n = renN now n := by
  cases e : n.lf with
  | true => rw [renN_leaf e, renN_leaf e]
  | false =>
    obtain ⟨_, h1, h2, h3, h4⟩ := nod_ask h e
    rw [renN_ask e, renN_ask e, getD_snoc (by omega), getD_snoc (by omega)]
/-- a node that is there already. -/
theorem ShI.old {ns out : List Nod} {now : List Nat} {k p : Nat} {m : Int} (h : ShI ns k out now) (ok : ∀ i (h : i < ns.length), nodE m i ns[i] = 0) (hk : k < ns.length) (hp : p < out.length) (he : out[p] = renN now ns[k]) : ShI ns (k + 1) out (now ++ [p]) where
  len := by rw [List.length_append, h.len]; rfl
  le := hk
  img := fun i hi => by
    by_cases e : i < k
    · obtain ⟨h', h1, h2, h3⟩ := h.img i e
      refine ⟨h', by rw [List.length_append]; omega, ?_⟩
      have e1 : (now ++ [p])[i]'(by rw [List.length_append]; omega) = now[i] := List.getElem_append_left h1
      simp only [e1]
      exact ⟨h2, by rw [h3, renN_snoc (ok i h') (by rw [h.len]; omega)]⟩
    · obtain rfl : i = k := by omega
      have hl := h.len
      refine ⟨hk, by rw [List.length_append, hl]; simp, ?_⟩
      have e1 : (now ++ [p])[i]'(by rw [List.length_append, hl]; simp) = p := by
        rw [List.getElem_append_right (by omega)]; simp
      simp only [e1]
      exact ⟨hp, by rw [he, renN_snoc (ok i hk) (by rw [h.len]; omega)]⟩
  dup := h.dup
  fst := fun q hq => by
    obtain ⟨i, h1, h2, h3, h4⟩ := h.fst q hq
    refine ⟨i, by omega, by rw [List.length_append]; omega, by rw [List.getElem_append_left h2]; exact h3, fun j hj => ?_⟩
    rw [List.getElem_append_left (by omega)]
    exact h4 j hj
/-- a node that is new. -/
theorem ShI.new {ns out : List Nod} {now : List Nat} {k : Nat} {m : Int} (h : ShI ns k out now) (ok : ∀ i (h : i < ns.length), nodE m i ns[i] = 0) (hk : k < ns.length) (he : ∀ p (hp : p < out.length), out[p] ≠ renN now ns[k]) : ShI ns (k + 1) (out ++ [renN now ns[k]]) (now ++ [out.length]) where
  len := by rw [List.length_append, h.len]; rfl
  le := hk
  img := fun i hi => by
    by_cases e : i < k
    · obtain ⟨h', h1, h2, h3⟩ := h.img i e
      refine ⟨h', by rw [List.length_append]; omega, ?_⟩
      have e1 : (now ++ [out.length])[i]'(by rw [List.length_append]; omega) = now[i] := List.getElem_append_left h1
      simp only [e1]
      exact ⟨by rw [List.length_append]; omega, by rw [List.getElem_append_left h2, h3, renN_snoc (ok i h') (by rw [h.len]; omega)]⟩
    · obtain rfl : i = k := by omega
      have hl := h.len
      refine ⟨hk, by rw [List.length_append, hl]; simp, ?_⟩
      have e1 : (now ++ [out.length])[i]'(by rw [List.length_append, hl]; simp) = out.length := by
        rw [List.getElem_append_right (by omega)]; simp
      simp only [e1]
      refine ⟨by simp, ?_⟩
      rw [renN_snoc (ok i hk) (by rw [h.len]; omega)]
      simp
  dup := fun i j hi hj hij => by
    have key : ∀ a (ha : a < out.length), (out ++ [renN now ns[k]])[a]'(by simp; omega) = out[a] := fun a ha => List.getElem_append_left ha
    have kl : (out ++ [renN now ns[k]])[out.length]'(by simp) = renN now ns[k] := by simp
    rw [List.length_append] at hi hj
    simp at hi hj
    by_cases e1 : i < out.length
    · by_cases e2 : j < out.length
      · rw [key i e1, key j e2]; exact h.dup i j e1 e2 hij
      · obtain rfl : j = out.length := by omega
        rw [key i e1, kl]; exact he i e1
    · obtain rfl : i = out.length := by omega
      have e2 : j < out.length := by omega
      rw [key j e2, kl]
      exact fun e => he j e2 e.symm
  fst := fun q hq => by
    by_cases e : q < out.length
    · obtain ⟨i, h1, h2, h3, h4⟩ := h.fst q e
      refine ⟨i, by omega, by rw [List.length_append]; omega, by rw [List.getElem_append_left h2]; exact h3, fun j hj => ?_⟩
      rw [List.getElem_append_left (by omega)]
      exact h4 j hj
    · obtain rfl : q = out.length := by simp at hq; omega
      have hl := h.len
      refine ⟨k, by omega, by rw [List.length_append, hl]; simp, by rw [List.getElem_append_right (by omega)]; simp [hl], fun j hj => ?_⟩
      obtain ⟨_, h1, h2, _⟩ := h.img j hj
      rw [List.getElem_append_left h1]
      exact h2
theorem getD_at {now : List Nat} {j : Nat} (h : j < now.length) : now.getD j 0 = now[j] := by
  rw [List.getD_eq_getElem?_getD, List.getElem?_eq_getElem h]; rfl
/-- what leads on from a node that is shared lies ahead of it. -/
theorem ShI.ahead {ns out : List Nod} {now : List Nat} {m : Int} (h : ShI ns ns.length out now) (ok : ∀ i (h : i < ns.length), nodE m i ns[i] = 0) {i : Nat} (hi : i < ns.length) (e : ns[i].lf = false) :
    ∃ h1 : i < now.length, now.getD ns[i].ls.toNat 0 < now[i] ∧ now.getD ns[i].mr.toNat 0 < now[i] := by
  obtain ⟨h', h1, h2, h3⟩ := h.img i hi
  refine ⟨h1, ?_⟩
  obtain ⟨i0, a1, a2, a3, a4⟩ := h.fst _ h2
  obtain ⟨b', b1, b2, b3⟩ := h.img i0 a1
  simp only [a3] at b3
  have he : renN now ns[i0] = renN now ns[i] := by rw [← b3, h3]
  have e0 : ns[i0].lf = false := by rw [← renN_lf now, he, renN_lf]; exact e
  obtain ⟨_, c1, c2, c3, c4⟩ := nod_ask (ok i0 b') e0
  rw [renN_ask e, renN_ask e0] at he
  injection he with f1 f2 f3 f4 f5
  have hl := h.len
  rw [← show now.getD ns[i0].ls.toNat 0 = now.getD ns[i].ls.toNat 0 by omega, ← show now.getD ns[i0].mr.toNat 0 = now.getD ns[i].mr.toNat 0 by omega]
  rw [getD_at (by omega), getD_at (by omega)]
  exact ⟨a4 _ (by omega), a4 _ (by omega)⟩
theorem ShI.lp {ns out : List Nod} {now : List Nat} {m : Int} (h : ShI ns ns.length out now) (ok : ∀ i (h : i < ns.length), nodE m i ns[i] = 0) {t : Int} {i : Nat} {a : Int} {n : Nat} (hL : Lp ns t i a n) : Lp out t (now.getD i 0) a n := by
  induction hL with
  | leaf i hi e =>
    obtain ⟨h', h1, h2, h3⟩ := h.img i hi
    rw [getD_at h1]
    have := Lp.leaf (ns := out) (t := t) now[i] h2 (by rw [h3, renN_lf]; exact e)
    rw [h3, renN_an] at this
    exact this
  | less i k a n hi e c hk hl r ih =>
    obtain ⟨h', h1, h2, h3⟩ := h.img i hi
    obtain ⟨_, g1, g2⟩ := h.ahead ok hi e
    have hk' : ns[i].ls.toNat = k := by omega
    rw [hk'] at g1
    rw [getD_at h1]
    exact Lp.less _ (now.getD k 0) _ _ h2 (by rw [h3, renN_lf]; exact e) (by rw [h3, renN_bd]; exact c) (by rw [h3, renN_ask e]; dsimp only; rw [hk']) g1 ih
  | more i k a n hi e c hk hl r ih =>
    obtain ⟨h', h1, h2, h3⟩ := h.img i hi
    obtain ⟨_, g1, g2⟩ := h.ahead ok hi e
    have hk' : ns[i].mr.toNat = k := by omega
    rw [hk'] at g2
    rw [getD_at h1]
    exact Lp.more _ (now.getD k 0) _ _ h2 (by rw [h3, renN_lf]; exact e) (by rw [h3, renN_bd]; exact c) (by rw [h3, renN_ask e]; dsimp only; rw [hk']) g2 ih
theorem ShI.good {ns out : List Nod} {now : List Nat} {m : Int} (h : ShI ns ns.length out now) (ok : ∀ i (h : i < ns.length), nodE m i ns[i] = 0) : ∀ p (hp : p < out.length), nodE m p out[p] = 0 := by
  intro p hp
  obtain ⟨i, a1, a2, a3, a4⟩ := h.fst p hp
  obtain ⟨h', h1, h2, h3⟩ := h.img i a1
  simp only [a3] at h3
  rw [h3]
  cases e : ns[i].lf with
  | true =>
    rw [renN_leaf e]
    obtain ⟨c1, c2, c3, c4, c5⟩ := nod_leaf (ok i h') e
    unfold nodE
    rw [if_pos e, if_neg (by omega), if_neg (by simp [c3, c4, c5])]
  | false =>
    obtain ⟨_, g1, g2⟩ := h.ahead ok h' e
    have c0 := (nod_ask (ok i h') e).1
    rw [a3] at g1 g2
    rw [renN_ask e]
    unfold nodE
    dsimp only
    rw [if_neg (by rw [e]; simp), if_neg (by omega), if_neg (by omega)]
/-- bounds of a forest, each at one node alone. -/
def AskU (ns : List Nod) : Prop := ∀ i j (hi : i < ns.length) (hj : j < ns.length), ns[i].lf = false → ns[j].lf = false → ns[i].bd = ns[j].bd → i = j
def RootU (ns : List Nod) : Prop := ∃ h : ns.length - 1 < ns.length, ns.length = 1 ∨ ns[ns.length - 1].lf = false
theorem ShI.root {ns out : List Nod} {now : List Nat} {m : Int} (h : ShI ns ns.length out now) (ok : ∀ i (h : i < ns.length), nodE m i ns[i] = 0) (hu : AskU ns) (hr : RootU ns) : 0 < out.length ∧ now.getD (ns.length - 1) 0 = out.length - 1 := by
  obtain ⟨h0, hr⟩ := hr
  obtain ⟨h', h1, h2, h3⟩ := h.img _ h0
  refine ⟨by omega, ?_⟩
  rw [getD_at h1]
  have hfirst : ∀ j (hj : j < ns.length - 1), now[j]'(by omega) < now[ns.length - 1] := fun j hj => by
    obtain ⟨i0, a1, a2, a3, a4⟩ := h.fst _ h2
    obtain ⟨b', b1, b2, b3⟩ := h.img i0 a1
    simp only [a3] at b3
    have he : renN now ns[i0] = renN now ns[ns.length - 1] := by rw [← b3, h3]
    rcases hr with hr | hr
    · omega
    · have e0 : ns[i0].lf = false := by rw [← renN_lf now, he, renN_lf]; exact hr
      have hb : ns[i0].bd = ns[ns.length - 1].bd := by rw [← renN_bd now, he, renN_bd]
      have := hu i0 _ b' h0 e0 hr hb
      subst this
      exact a4 j hj
  have hall : ∀ p, p < out.length → p ≤ now[ns.length - 1] := fun p hp => by
    obtain ⟨i, a1, a2, a3, a4⟩ := h.fst p hp
    by_cases e : i = ns.length - 1
    · subst e; omega
    · have := hfirst i (by omega); omega
  have := hall (out.length - 1) (by omega)
  omega
end Go.Proofs.YtdpbedkppomffaaGreatDoor
namespace Go.Proofs.YtdpbedkppomffaaGreatDoor
set_option linter.unusedVariables false
set_option linter.unusedSimpArgs false
open Go.ChangeShapes Go.WideShapes Go.ChangeAt Go.RowKit

def eqA (a b : Ans) : Bool := a.ck.off == b.ck.off && a.ck.sav == b.ck.sav && a.ck.nm.data.toList == b.ck.nm.data.toList && a.jump == b.jump && a.offs == b.offs
theorem eqA_iff (a b : Ans) : eqA a b = true ↔ a = b := by
  obtain ⟨⟨o, s, n⟩, f, j⟩ := a
  obtain ⟨⟨o', s', n'⟩, f', j'⟩ := b
  unfold eqA
  simp only [Bool.and_eq_true, beq_iff_eq]
  constructor
  · rintro ⟨⟨⟨⟨h1, h2⟩, h3⟩, h4⟩, h5⟩
    have : n = n' := ByteArray.ext (Array.toList_inj.1 h3)
    subst h1 h2 this h4 h5
    rfl
  · intro h
    injection h with h1 h2 h3
    injection h1 with h4 h5 h6
    subst h4 h5 h6 h2 h3
    exact ⟨⟨⟨⟨rfl, rfl⟩, rfl⟩, rfl⟩, rfl⟩
def mgStep (st : List Ans × List Int) (a : Ans) : List Ans × List Int :=
  if fidx (eqA a) st.1 < 0 then (st.1 ++ [a], st.2 ++ [(st.1.length : Int)]) else (st.1, st.2 ++ [fidx (eqA a) st.1])
def mg (az : List Ans) : List Ans × List Int := az.foldl mgStep ([], [])
theorem mg_snoc (az : List Ans) (a : Ans) : mg (az ++ [a]) = mgStep (mg az) a := by unfold mg; rw [List.foldl_append]; rfl
theorem fidx_hit {α : Type} (p : α → Bool) : ∀ (xs : List α), 0 ≤ fidx p xs → ∃ (k : Nat) (h : k < xs.length), fidx p xs = k ∧ p xs[k] = true
  | xs, h => by
    by_cases hn : ∀ i (hi : i < xs.length), p xs[i] = false
    · rw [fidx_none p xs hn] at h; omega
    · obtain ⟨i, hi⟩ := Classical.not_forall.1 hn
      obtain ⟨hi, hp⟩ := Classical.not_forall.1 hi
      have hp : p xs[i] = true := by simpa using hp
      obtain ⟨m, ⟨⟨hm, hpm⟩, hmin⟩, _⟩ := least (p := fun k => ∃ h : k < xs.length, p xs[k] = true) i ⟨hi, hp⟩
      refine ⟨m, hm, fidx_at p xs m hm (fun j hj => ?_) hpm, hpm⟩
      have := hmin j hj
      cases e : p (xs[j]'(by omega)) with
      | false => rfl
      | true => exact absurd ⟨by omega, e⟩ this
theorem fidx_miss {α : Type} (p : α → Bool) (xs : List α) (h : fidx p xs < 0) : ∀ i (hi : i < xs.length), p xs[i] = false := by
  intro i hi
  cases e : p xs[i] with
  | false => rfl
  | true =>
    obtain ⟨m, ⟨⟨hm, hpm⟩, hmin⟩, _⟩ := least (p := fun k => ∃ h : k < xs.length, p xs[k] = true) i ⟨hi, e⟩
    rw [fidx_at p xs m hm (fun j hj => by
      have := hmin j hj
      cases e : p (xs[j]'(by omega)) with
      | false => rfl
      | true => exact absurd ⟨by omega, e⟩ this) hpm] at h
    omega
structure MgI (az : List Ans) (out : List Ans) (now : List Int) : Prop where
  len : now.length = az.length
  img : ∀ i (h : i < az.length), ∃ h1 : i < now.length, 0 ≤ now[i] ∧ ∃ h2 : now[i].toNat < out.length, out[now[i].toNat] = az[i]
  dup : ∀ i j (hi : i < out.length) (hj : j < out.length), i ≠ j → out[i] ≠ out[j]
  le : out.length ≤ az.length
  src : ∀ p (h : p < out.length), out[p] ∈ az
theorem MgI.step {az out : List Ans} {now : List Int} {a : Ans} (h : MgI az out now) : MgI (az ++ [a]) (mgStep (out, now) a).1 (mgStep (out, now) a).2 := by
  have hl := h.len
  by_cases hi : fidx (eqA a) out < 0
  · have e : mgStep (out, now) a = (out ++ [a], now ++ [(out.length : Int)]) := by
      show (if _ then _ else _) = _
      rw [if_pos hi]
    rw [e]
    have hne : ∀ i (hi : i < out.length), out[i] ≠ a := fun i hx e => by
      have := fidx_miss _ _ hi i hx
      rw [(eqA_iff _ _).2 e.symm] at this
      cases this
    have key : ∀ i (ha : i < out.length), (out ++ [a])[i]'(by simp; omega) = out[i] := fun i ha => List.getElem_append_left ha
    have kl : (out ++ [a])[out.length]'(by simp) = a := by simp
    refine ⟨by simp [hl], fun i hx => ?_, fun i j hi hj hij => ?_, by simpa using h.le, fun p hp => ?_⟩
    · by_cases e1 : i < az.length
      · obtain ⟨h1, h2, h3, h4⟩ := h.img i e1
        refine ⟨by simp; omega, ?_⟩
        simp only [List.getElem_append_left h1]
        exact ⟨h2, by simp; omega, by rw [List.getElem_append_left e1, List.getElem_append_left h3]; exact h4⟩
      · obtain rfl : i = az.length := by simp at hx; omega
        refine ⟨by simp [hl], ?_⟩
        have e1 : (now ++ [(out.length : Int)])[az.length]'(by simp [hl]) = (out.length : Int) := by
          rw [List.getElem_append_right (by omega)]; simp
        simp only [e1]
        exact ⟨by omega, by simp, by simp⟩
    · simp at hi hj
      by_cases e1 : i < out.length
      · by_cases e2 : j < out.length
        · rw [key i e1, key j e2]; exact h.dup i j e1 e2 hij
        · obtain rfl : j = out.length := by omega
          rw [key i e1, kl]; exact hne i e1
      · obtain rfl : i = out.length := by omega
        have e2 : j < out.length := by omega
        rw [key j e2, kl]
        exact fun e => hne j e2 e.symm
    · by_cases e1 : p < out.length
      · rw [key p e1]; exact List.mem_append_left _ (h.src p e1)
      · obtain rfl : p = out.length := by simp at hp; omega
        rw [kl]; simp
  · have e : mgStep (out, now) a = (out, now ++ [fidx (eqA a) out]) := by
      show (if _ then _ else _) = _
      rw [if_neg hi]
    rw [e]
    obtain ⟨k, hk, hx, hp⟩ := fidx_hit (eqA a) out (by omega)
    refine ⟨by simp [hl], fun i hi => ?_, h.dup, by have := h.le; simp; omega, fun p hp => List.mem_append_left _ (h.src p hp)⟩
    by_cases e1 : i < az.length
    · obtain ⟨h1, h2, h3, h4⟩ := h.img i e1
      refine ⟨by simp; omega, ?_⟩
      simp only [List.getElem_append_left h1]
      exact ⟨h2, h3, by rw [List.getElem_append_left e1]; exact h4⟩
    · obtain rfl : i = az.length := by simp at hi; omega
      refine ⟨by simp [hl], ?_⟩
      have e1 : (now ++ [fidx (eqA a) out])[az.length]'(by simp [hl]) = (k : Int) := by
        rw [List.getElem_append_right (by omega)]; simp [hx]
      simp only [e1]
      refine ⟨by omega, by simpa using hk, ?_⟩
      simp only [Int.toNat_natCast]
      rw [((eqA_iff _ _).1 hp).symm]
      simp
theorem mg_inv : ∀ (n : Nat) (az : List Ans), az.length = n → MgI az (mg az).1 (mg az).2
  | 0, az, h => by
    obtain rfl : az = [] := List.length_eq_zero_iff.1 h
    exact ⟨rfl, fun i h => by simp at h, fun i j h => by simp [mg] at h, Nat.le_refl _, fun p h => by simp [mg] at h⟩
  | n + 1, az, h => by
    rcases List.eq_nil_or_concat az with rfl | ⟨l, a, rfl⟩
    · simp at h
    · rw [List.concat_eq_append, mg_snoc]
      exact (mg_inv n l (by simpa using h)).step
def nowAt (now : List Int) (a : Int) : Int := now.getD a.toNat 0
def ddStep (acc : List Pc) (p : Pc) : List Pc := if acc.getLast?.map Pc.an = some p.an then acc else acc ++ [p]
def ddp (ps : List Pc) : List Pc := ps.foldl ddStep []
theorem ddp_snoc (ps : List Pc) (p : Pc) : ddp (ps ++ [p]) = ddStep (ddp ps) p := by unfold ddp; rw [List.foldl_append]; rfl
structure DDI (ps acc : List Pc) : Prop where
  nil : ps = [] → acc = []
  pos : 0 < ps.length → 0 < acc.length
  le : acc.length ≤ ps.length
  sub : (acc.drop 1).Sublist (ps.drop 1)
  mem : ∀ x ∈ acc, x ∈ ps
  last : acc.getLast?.map Pc.an = ps.getLast?.map Pc.an
  at_ : ∀ t i (hi : i < ps.length), AtPc ps t i → ∃ j, ∃ hj : j < acc.length, AtPc acc t j ∧ acc[j].an = ps[i].an
theorem drop_mem {α : Type} {l : List α} {j : Nat} (h1 : 1 ≤ j) (h : j < l.length) : l[j] ∈ l.drop 1 := by
  rw [List.mem_iff_getElem]
  exact ⟨j - 1, by simp; omega, by simp only [List.getElem_drop]; congr 1; omega⟩
theorem mem_drop1 {α : Type} {l : List α} {x : α} (h : x ∈ l.drop 1) : ∃ j, ∃ hj : j < l.length, 1 ≤ j ∧ l[j] = x := by
  obtain ⟨i, hi, e⟩ := List.mem_iff_getElem.1 h
  rw [List.getElem_drop] at e
  exact ⟨1 + i, by simp at hi; omega, by omega, e⟩
theorem DDI.step {ps acc : List Pc} {p : Pc} (h : DDI ps acc) : DDI (ps ++ [p]) (ddStep acc p) := by
  by_cases h0 : ps = []
  · subst h0
    obtain rfl := h.nil rfl
    have e : ddStep [] p = [p] := rfl
    rw [e]
    exact ⟨fun h => by simp at h, fun _ => by simp, Nat.le_refl _, List.Sublist.refl _, fun x hx => hx, rfl, fun t i hi hat => ⟨i, hi, hat, rfl⟩⟩
  · have hp : 0 < ps.length := List.length_pos_iff.2 h0
    have ha := h.pos hp
    have hlast : (ps ++ [p]).getLast?.map Pc.an = some p.an := by simp
    have hps : ∀ i (hi : i < ps.length), (ps ++ [p])[i]'(by simp; omega) = ps[i] := fun i hi => List.getElem_append_left hi
    have hpl : (ps ++ [p])[ps.length]'(by simp) = p := by simp
    have hlow : ∀ t i, AtPc (ps ++ [p]) t i → i < ps.length → t < p.fr ∧ AtPc ps t i := fun t i hat hi => by
      obtain ⟨a1, a2⟩ := hat
      refine ⟨?_, fun j hj hij => ?_, fun j hj u v => ?_⟩
      · have := a1 ps.length (by simp) hi; rwa [hpl] at this
      · have := a1 j (by simp; omega) hij; rwa [hps j hj] at this
      · have := a2 j (by simp; omega) u v; rwa [hps j hj] at this
    have hall : ∀ t, AtPc (ps ++ [p]) t ps.length → p.fr ≤ t ∧ ∀ j (hj : j < acc.length), 1 ≤ j → acc[j].fr ≤ t := fun t hat => by
      obtain ⟨a1, a2⟩ := hat
      refine ⟨by have := a2 ps.length (by simp) (by omega) (Nat.le_refl _); rwa [hpl] at this, fun j hj h1 => ?_⟩
      obtain ⟨q, hq, hq1, e⟩ := mem_drop1 (h.sub.subset (drop_mem h1 hj))
      have := a2 q (by simp; omega) hq1 (by omega)
      rw [hps q hq, e] at this
      exact this
    by_cases hs : acc.getLast?.map Pc.an = some p.an
    · have e : ddStep acc p = acc := by unfold ddStep; rw [if_pos hs]
      rw [e]
      refine ⟨fun h => by simp at h, fun _ => ha, by have := h.le; simp; omega, ?_, fun x hx => List.mem_append_left _ (h.mem x hx), by rw [hlast, hs], fun t i hi hat => ?_⟩
      · rw [List.drop_append_of_le_length (by omega)]
        exact h.sub.trans (List.sublist_append_left _ _)
      · by_cases hlt : i < ps.length
        · rw [hps i hlt]
          exact h.at_ t i hlt (hlow t i hat hlt).2
        · obtain rfl : i = ps.length := by simp at hi; omega
          obtain ⟨b1, b2⟩ := hall t hat
          refine ⟨acc.length - 1, by omega, ⟨fun j hj hij => by omega, fun j hj u v => b2 j hj u⟩, ?_⟩
          rw [hpl]
          rw [List.getLast?_eq_getElem?, List.getElem?_eq_getElem (by omega)] at hs
          simpa using hs
    · have e : ddStep acc p = acc ++ [p] := by unfold ddStep; rw [if_neg hs]
      rw [e]
      have has : ∀ i (hi : i < acc.length), (acc ++ [p])[i]'(by simp; omega) = acc[i] := fun i hi => List.getElem_append_left hi
      have hal : (acc ++ [p])[acc.length]'(by simp) = p := by simp
      refine ⟨fun h => by simp at h, fun _ => by simp, by have := h.le; simp; omega, ?_, fun x hx => ?_, by simp, fun t i hi hat => ?_⟩
      · rw [List.drop_append_of_le_length (by omega), List.drop_append_of_le_length (by omega)]
        exact h.sub.append (List.Sublist.refl _)
      · rcases List.mem_append.1 hx with hx | hx
        · exact List.mem_append_left _ (h.mem x hx)
        · exact List.mem_append_right _ hx
      · by_cases hlt : i < ps.length
        · obtain ⟨c1, c2⟩ := hlow t i hat hlt
          obtain ⟨j, hj, ⟨d1, d2⟩, d3⟩ := h.at_ t i hlt c2
          refine ⟨j, by simp; omega, ⟨fun q hq hjq => ?_, fun q hq u v => ?_⟩, by rw [has j hj, hps i hlt]; exact d3⟩
          · by_cases e : q < acc.length
            · rw [has q e]; exact d1 q e hjq
            · obtain rfl : q = acc.length := by simp at hq; omega
              rw [hal]; exact c1
          · rw [has q (by omega)]; exact d2 q (by omega) u v
        · obtain rfl : i = ps.length := by simp at hi; omega
          obtain ⟨b1, b2⟩ := hall t hat
          refine ⟨acc.length, by simp, ⟨fun q hq hjq => by simp at hq; omega, fun q hq u v => ?_⟩, by rw [hal, hpl]⟩
          by_cases e : q < acc.length
          · rw [has q e]; exact b2 q e u
          · obtain rfl : q = acc.length := by omega
            rw [hal]; exact b1
theorem ddp_inv : ∀ (n : Nat) (ps : List Pc), ps.length = n → DDI ps (ddp ps)
  | 0, ps, h => by
    obtain rfl : ps = [] := List.length_eq_zero_iff.1 h
    exact ⟨fun _ => rfl, fun h => by simp at h, Nat.le_refl _, List.Sublist.refl _, fun x hx => hx, rfl, fun t i hi => by simp at hi⟩
  | n + 1, ps, h => by
    rcases List.eq_nil_or_concat ps with rfl | ⟨l, p, rfl⟩
    · simp at h
    · rw [List.concat_eq_append, ddp_snoc]
      exact (ddp_inv n l (by simpa using h)).step
theorem rise_pair {ps : List Pc} : RiseP ps ↔ ((ps.drop 1).map Pc.fr).Pairwise (· < ·) := by
  rw [List.pairwise_iff_getElem]
  constructor
  · intro hr i j hi hj hij
    simp only [List.getElem_map, List.getElem_drop]
    exact hr (1 + i) (1 + j) (by simp at hj; omega) (by omega) (by omega)
  · intro h i j hj h1 hij
    have := h (i - 1) (j - 1) (by simp; omega) (by simp; omega) (by omega)
    simp only [List.getElem_map, List.getElem_drop, show 1 + (i - 1) = i from by omega, show 1 + (j - 1) = j from by omega] at this
    exact this
theorem DDI.rise {ps acc : List Pc} (h : DDI ps acc) (hr : RiseP ps) : RiseP acc :=
  rise_pair.2 ((rise_pair.1 hr).sublist (h.sub.map _))
end Go.Proofs.YtdpbedkppomffaaGreatDoor
namespace Go.Proofs.YtdpbedkppomffaaGreatDoor
set_option linter.unusedVariables false
set_option linter.unusedSimpArgs false
open Go.ChangeShapes Go.WideShapes Go.ChangeAt Go.RowKit

theorem nodup_sub : ∀ (l m : List Int), l.Nodup → (∀ x ∈ l, x ∈ m) → l.length ≤ m.length
  | [], m, _, _ => Nat.zero_le _
  | a :: l, m, h, hs => by
    have hd := List.nodup_cons.1 h
    have ha := hs a (by simp)
    have ih := nodup_sub l (m.erase a) hd.2 fun x hx => by
      have hne : x ≠ a := fun e => hd.1 (e ▸ hx)
      exact (List.mem_erase_of_ne hne).2 (hs x (by simp [hx]))
    rw [List.length_erase_of_mem ha] at ih
    have : 0 < m.length := List.length_pos_of_mem ha
    simp
    omega
theorem nodup_eq {l m : List Int} (h1 : l.Nodup) (h2 : m.Nodup) (h : ∀ x, x ∈ l ↔ x ∈ m) : l.length = m.length :=
  Nat.le_antisymm (nodup_sub l m h1 fun x hx => (h x).1 hx) (nodup_sub m l h2 fun x hx => (h x).2 hx)
theorem srtC_nodup (l : List Int) : (srtC l).Nodup := (srtC_rise l).imp fun h => by omega
theorem srtC_len_le {l m : List Int} (h : ∀ x ∈ l, x ∈ m) : (srtC l).length ≤ (srtC m).length :=
  nodup_sub _ _ (srtC_nodup l) fun x hx => (srtC_mem m x).2 (h x ((srtC_mem l x).1 hx))
theorem srtC_len_eq {l m : List Int} (h : ∀ x, x ∈ l ↔ x ∈ m) : (srtC l).length = (srtC m).length :=
  Nat.le_antisymm (srtC_len_le fun x hx => (h x).1 hx) (srtC_len_le fun x hx => (h x).2 hx)
theorem srtC_map_le {l : List Int} (g : Int → Int) : (srtC (l.map g)).length ≤ (srtC l).length := by
  have h := nodup_sub (srtC (l.map g)) ((srtC l).map g) (srtC_nodup _) fun x hx => by
    obtain ⟨y, hy, rfl⟩ := List.mem_map.1 ((srtC_mem _ _).1 hx)
    exact List.mem_map.2 ⟨y, (srtC_mem _ _).2 hy, rfl⟩
  rwa [List.length_map] at h
def lvs (ns : List Nod) : List Int := (ns.filter fun n => n.lf).map Nod.an
theorem bnds_app (A B : List Nod) : bnds (A ++ B) = bnds A ++ bnds B := by unfold bnds; rw [List.filter_append, List.map_append]
theorem lvs_app (A B : List Nod) : lvs (A ++ B) = lvs A ++ lvs B := by unfold lvs; rw [List.filter_append, List.map_append]
theorem nod_count (ns : List Nod) : ns.length = (bnds ns).length + (lvs ns).length := by
  induction ns with
  | nil => rfl
  | cons n ns ih =>
    unfold bnds lvs at ih ⊢
    rw [List.length_map, List.length_map] at ih ⊢
    simp only [List.filter_cons]
    cases n.lf <;> simp <;> omega
theorem bnds_nodup (ns : List Nod) : (bnds ns).Nodup ↔ AskU ns := by
  unfold bnds List.Nodup
  rw [List.pairwise_map, List.pairwise_filter, List.pairwise_iff_getElem]
  constructor
  · intro h i j hi hj ei ej hb
    rcases Nat.lt_trichotomy i j with c | c | c
    · exact absurd hb (h i j hi hj c (by rw [ei]; rfl) (by rw [ej]; rfl))
    · exact c
    · exact absurd hb.symm (h j i hj hi c (by rw [ej]; rfl) (by rw [ei]; rfl))
  · intro h i j hi hj hij ei ej hb
    have := h i j hi hj (by simpa using ei) (by simpa using ej) hb
    omega
theorem bnds_chN : ∀ (ps : List Pc), bnds (chN ps) = ((ps.drop 1).map Pc.fr).reverse
  | [] => rfl
  | [p] => rfl
  | p :: q :: r => by
    rw [chN_cons, bnds_app, bnds_chN (q :: r)]
    simp [bnds, leafN, askN]
theorem lvs_chN : ∀ (ps : List Pc), lvs (chN ps) = (ps.map Pc.an).reverse
  | [] => rfl
  | [p] => rfl
  | p :: q :: r => by
    rw [chN_cons, lvs_app, lvs_chN (q :: r)]
    simp [lvs, leafN, askN]
theorem half_drop {α : Type} (l : List α) (k : Nat) (h0 : 0 < k) (h : k < l.length) : l.drop 1 = (l.take k).drop 1 ++ (l[k] :: (l.drop k).drop 1) := by
  rw [List.drop_drop, ← List.drop_eq_getElem_cons h]
  have : l = l.take k ++ l.drop k := (List.take_append_drop k l).symm
  have h1 : l.drop 1 = (l.take k ++ l.drop k).drop 1 := by rw [← this]
  rw [h1, List.drop_append_of_le_length (by rw [List.length_take]; omega)]
theorem bnds_bal : ∀ (F : Nat) (l : List Pc) (b : Nat), 0 < l.length → l.length ≤ F → (bnds (balF F l b)).Perm ((l.drop 1).map Pc.fr)
  | 0, l, b, h0, h => by omega
  | F + 1, l, b, h0, h => by
    by_cases h1 : l.length ≤ 1
    · rw [balF_one h1]
      have : l.drop 1 = [] := List.drop_eq_nil_of_le h1
      rw [this]
      exact List.Perm.refl _
    · obtain ⟨k, hk⟩ : ∃ k, k = l.length / 2 := ⟨_, rfl⟩
      rw [balF_two h1, ← hk, bnds_app, bnds_app, half_drop l k (by omega) (by omega), List.map_append]
      have hA := bnds_bal F (l.take k) b (by rw [List.length_take]; omega) (by rw [List.length_take]; omega)
      have hB := bnds_bal F (l.drop k) (b + (2 * k - 1)) (by rw [List.length_drop]; omega) (by rw [List.length_drop]; omega)
      rw [List.append_assoc]
      refine List.Perm.append hA ?_
      rw [List.map_cons]
      have e : bnds [askN (frAt l k) ((b + (2 * k - 1) - 1 : Nat) : Int) ((b + (2 * l.length - 2) - 1 : Nat) : Int)] = [l[k].fr] := by
        rw [frAt_eq (by omega)]; rfl
      rw [e]
      exact (List.perm_append_comm).trans (List.Perm.cons _ hB)
theorem lvs_bal : ∀ (F : Nat) (l : List Pc) (b : Nat), 0 < l.length → l.length ≤ F → lvs (balF F l b) = l.map Pc.an
  | 0, l, b, h0, h => by omega
  | F + 1, l, b, h0, h => by
    by_cases h1 : l.length ≤ 1
    · rw [balF_one h1, anAt_eq h0]
      match l, h0, h1 with
      | [p], _, _ => rfl
    · obtain ⟨k, hk⟩ : ∃ k, k = l.length / 2 := ⟨_, rfl⟩
      rw [balF_two h1, ← hk, lvs_app, lvs_app, lvs_bal F (l.take k) b (by rw [List.length_take]; omega) (by rw [List.length_take]; omega), lvs_bal F (l.drop k) _ (by rw [List.length_drop]; omega) (by rw [List.length_drop]; omega), ← List.map_append, List.take_append_drop]
      have : lvs [askN (frAt l k) ((b + (2 * k - 1) - 1 : Nat) : Int) ((b + (2 * l.length - 2) - 1 : Nat) : Int)] = [] := rfl
      rw [this, List.append_nil]
/-- the tree of pieces, balanced or a chain. -/
def optN (bal : Bool) (ps : List Pc) : List Nod := if bal = true then balF ps.length ps 0 else chN ps
theorem optN_bnds (bal : Bool) {ps : List Pc} (h0 : 0 < ps.length) : (bnds (optN bal ps)).Perm ((ps.drop 1).map Pc.fr) := by
  unfold optN
  cases bal
  · rw [if_neg (by simp), bnds_chN]; exact List.reverse_perm _
  · rw [if_pos rfl]; exact bnds_bal _ _ _ h0 (Nat.le_refl _)
theorem optN_lvs (bal : Bool) {ps : List Pc} (h0 : 0 < ps.length) (x : Int) : x ∈ lvs (optN bal ps) ↔ x ∈ ps.map Pc.an := by
  unfold optN
  cases bal
  · rw [if_neg (by simp), lvs_chN, List.mem_reverse]
  · rw [if_pos rfl, lvs_bal _ _ _ h0 (Nat.le_refl _)]
theorem optN_len (bal : Bool) {ps : List Pc} (h0 : 0 < ps.length) : (optN bal ps).length = 2 * ps.length - 1 := by
  unfold optN
  cases bal
  · rw [if_neg (by simp)]
    match ps, h0 with
    | p :: r, _ => rw [chN_len]; simp; omega
  · rw [if_pos rfl, balF_len _ _ _ h0 (Nat.le_refl _)]
theorem optN_askU (bal : Bool) {ps : List Pc} (h0 : 0 < ps.length) (hr : RiseP ps) : AskU (optN bal ps) := by
  refine (bnds_nodup _).1 ((optN_bnds bal h0).nodup_iff.2 ((rise_pair.1 hr).imp fun h => by omega))
theorem optN_root (bal : Bool) {ps : List Pc} (h0 : 0 < ps.length) : RootU (optN bal ps) := by
  have hl := optN_len bal h0
  refine ⟨by omega, ?_⟩
  by_cases h1 : ps.length = 1
  · left; omega
  · right
    have hx : ∃ x : Nod, x.lf = false ∧ ∃ A, optN bal ps = A ++ [x] := by
      unfold optN
      cases bal
      · rw [if_neg (by simp)]
        match ps, h0, h1 with
        | p :: q :: r, _, _ => exact ⟨_, rfl, chN (q :: r) ++ [leafN p.an], by rw [chN_cons, List.append_assoc]; rfl⟩
      · rw [if_pos rfl]
        obtain ⟨F, hF⟩ : ∃ F, ps.length = F + 1 := ⟨ps.length - 1, by omega⟩
        have : balF ps.length ps 0 = balF (F + 1) ps 0 := by rw [hF]
        rw [this, balF_two (by omega)]
        exact ⟨_, rfl, _, rfl⟩
    obtain ⟨x, hx, A, hA⟩ := hx
    simp only [hA]
    have e : (A ++ [x])[(A ++ [x]).length - 1]'(by simp) = x := by
      rw [List.getElem_append_right (by simp)]; simp
    rw [e]; exact hx
theorem optN_good (bal : Bool) (c : Int) {ps : List Pc} (h0 : 0 < ps.length) (hp : ∀ p ∈ ps, 0 ≤ p.an ∧ p.an < c) : ∀ i (hi : i < (optN bal ps).length), nodE c i (optN bal ps)[i] = 0 := by
  unfold optN
  cases bal
  · simp only [Bool.false_eq_true, if_false]
    exact chN_good c ps hp
  · simp only [if_true]
    intro i hi
    have := bal_good c ps.length ps 0 h0 (Nat.le_refl _) hp i hi
    rwa [Nat.zero_add] at this
theorem chain_lp {ps : List Pc} {t : Int} {i : Nat} (hi : i < ps.length) (hat : AtPc ps t i) : ∃ n, Lp (chN ps) t ((chN ps).length - 1) ps[i].an n :=
  (chain_lf t ps i hi hat.1 hat.2).lp
theorem optN_lp (bal : Bool) {ps : List Pc} {t : Int} {i : Nat} (hi : i < ps.length) (hat : AtPc ps t i) : ∃ n, Lp (optN bal ps) t ((optN bal ps).length - 1) ps[i].an n ∧ (bal = true → ∀ m, ps.length ≤ 2 ^ m → n ≤ m + 1) := by
  unfold optN
  cases bal
  · rw [if_neg (by simp)]
    obtain ⟨n, hn⟩ := chain_lp hi hat
    exact ⟨n, hn, fun h => by cases h⟩
  · rw [if_pos rfl]
    have key : ∀ m, ps.length ≤ 2 ^ m → ∃ n, n ≤ m + 1 ∧ Lp (balF ps.length ps 0) t ((balF ps.length ps 0).length - 1) ps[i].an n := fun m hm => by
      obtain ⟨n, h1, h2⟩ := bal_lp t ps.length ps [] i m hi (Nat.le_refl _) hm hat
      refine ⟨n, h1, ?_⟩
      rw [balF_len _ _ _ (by omega) (Nat.le_refl _)]
      simpa using h2
    obtain ⟨m0, hm0, hmin⟩ : ∃ m, ps.length ≤ 2 ^ m ∧ ∀ q, ps.length ≤ 2 ^ q → m ≤ q := by
      obtain ⟨m, ⟨h1, h2⟩, _⟩ := least (p := fun m => ps.length ≤ 2 ^ m) ps.length (Nat.le_of_lt Nat.lt_two_pow_self)
      exact ⟨m, h1, fun q hq => by
        rcases Nat.lt_or_ge q m with h | h
        · exact absurd hq (h2 q h)
        · exact h⟩
    obtain ⟨n, h1, h2⟩ := key m0 hm0
    exact ⟨n, h2, fun _ m hm => by have := hmin m hm; omega⟩
/-- the size of a forest that is shared. -/
theorem ShI.size {ns out : List Nod} {now : List Nat} {m : Int} (h : ShI ns ns.length out now) (ok : ∀ i (h : i < ns.length), nodE m i ns[i] = 0) (hu : AskU ns) : out.length = (bnds ns).length + (srtC (lvs ns)).length := by
  have g := h.good ok
  have ask_out : AskU out := fun p q hp hq ep eq hb => by
    obtain ⟨i, a1, a2, a3, a4⟩ := h.fst p hp
    obtain ⟨i', b1, b2, b3⟩ := h.img i a1
    obtain ⟨j, c1, c2, c3, c4⟩ := h.fst q hq
    obtain ⟨j', d1, d2, d3⟩ := h.img j c1
    simp only [a3] at b3
    simp only [c3] at d3
    have := hu i j i' j' (by rw [← renN_lf now, ← b3]; exact ep) (by rw [← renN_lf now, ← d3]; exact eq) (by rw [← renN_bd now ns[i], ← renN_bd now ns[j], ← b3, ← d3]; exact hb)
    subst this
    omega
  have lvs_out : (lvs out).Nodup := by
    unfold lvs List.Nodup
    rw [List.pairwise_map, List.pairwise_filter, List.pairwise_iff_getElem]
    intro p q hp hq hpq ep eq hb
    obtain ⟨_, _, e1, e2, e3⟩ := nod_leaf (g p hp) ep
    obtain ⟨_, _, f1, f2, f3⟩ := nod_leaf (g q hq) eq
    refine h.dup p q hp hq (by omega) ?_
    generalize out[p] = x at *
    generalize out[q] = y at *
    obtain ⟨x1, x2, x3, x4, x5⟩ := x
    obtain ⟨y1, y2, y3, y4, y5⟩ := y
    simp_all
  have mem_b : ∀ x, x ∈ bnds out ↔ x ∈ bnds ns := fun x => by
    unfold bnds
    simp only [List.mem_map, List.mem_filter]
    constructor
    · rintro ⟨n, ⟨hn, e⟩, rfl⟩
      obtain ⟨p, hp, rfl⟩ := List.mem_iff_getElem.1 hn
      obtain ⟨i, a1, a2, a3, a4⟩ := h.fst p hp
      obtain ⟨i', b1, b2, b3⟩ := h.img i a1
      simp only [a3] at b3
      exact ⟨ns[i], ⟨List.getElem_mem i', by rw [b3, renN_lf] at e; exact e⟩, by rw [b3, renN_bd]⟩
    · rintro ⟨n, ⟨hn, e⟩, rfl⟩
      obtain ⟨i, hi, rfl⟩ := List.mem_iff_getElem.1 hn
      obtain ⟨i', b1, b2, b3⟩ := h.img i hi
      exact ⟨out[now[i]], ⟨List.getElem_mem b2, by rw [b3, renN_lf]; exact e⟩, by rw [b3, renN_bd]⟩
  have mem_l : ∀ x, x ∈ lvs out ↔ x ∈ srtC (lvs ns) := fun x => by
    rw [srtC_mem]
    unfold lvs
    simp only [List.mem_map, List.mem_filter]
    constructor
    · rintro ⟨n, ⟨hn, e⟩, rfl⟩
      obtain ⟨p, hp, rfl⟩ := List.mem_iff_getElem.1 hn
      obtain ⟨i, a1, a2, a3, a4⟩ := h.fst p hp
      obtain ⟨i', b1, b2, b3⟩ := h.img i a1
      simp only [a3] at b3
      exact ⟨ns[i], ⟨List.getElem_mem i', by rw [b3, renN_lf] at e; exact e⟩, by rw [b3, renN_an]⟩
    · rintro ⟨n, ⟨hn, e⟩, rfl⟩
      obtain ⟨i, hi, rfl⟩ := List.mem_iff_getElem.1 hn
      obtain ⟨i', b1, b2, b3⟩ := h.img i hi
      exact ⟨out[now[i]], ⟨List.getElem_mem b2, by rw [b3, renN_lf]; exact e⟩, by rw [b3, renN_an]⟩
  rw [nod_count out, nodup_eq ((bnds_nodup out).2 ask_out) ((bnds_nodup ns).2 hu) mem_b, nodup_eq lvs_out (srtC_nodup _) mem_l]
end Go.Proofs.YtdpbedkppomffaaGreatDoor
namespace Go.Proofs.YtdpbedkppomffaaGreatDoor
set_option linter.unusedVariables false
set_option linter.unusedSimpArgs false
open Go.ChangeShapes Go.WideShapes Go.ChangeAt Go.RowKit

def pcsM (f : Frs) (F : Int → Int) : List Pc := (pcsOf f.nodes F).map fun p => ⟨p.fr, nowAt (mg f.answers).2 p.an⟩
def optP (f : Frs) (F : Int → Int) (m : Bool) : List Pc := if m = true then ddp (pcsM f F) else pcsOf f.nodes F
def optAns (f : Frs) (m : Bool) : List Ans := if m = true then (mg f.answers).1 else f.answers
/-- g is what Opt makes of f: m: merged, s: shared, b: balanced. -/
structure OptIs (f : Frs) (F : Int → Int) (m s b : Bool) (g : Frs) : Prop where
  ans : g.answers = optAns f m
  nods : if s = true then ∃ now, ShI (optN b (optP f F m)) (optN b (optP f F m)).length g.nodes now else g.nodes = optN b (optP f F m)
/-- F tells what f tells. -/
structure Tells (f : Frs) (F : Int → Int) : Prop where
  ok : frsE f = 0
  lf : ∀ t, Lf f.nodes t (f.nodes.length - 1) (F t)
  bd : ∀ n ∈ f.nodes, minI ≤ n.bd
theorem tells_ex {f : Frs} (h : frsE f = 0) (hb : ∀ n ∈ f.nodes, minI ≤ n.bd) : ∃ F, Tells f F := by
  obtain ⟨h0, h1, h2, h3, h4⟩ := frs_good h
  have hex : ∀ t : Int, ∃ a : Int, Lf f.nodes t (f.nodes.length - 1) a := fun t => by
    obtain ⟨a, ha, _⟩ := lf_ex f.nodes f.answers.length t h4 f.nodes.length (f.nodes.length - 1) (by omega) (by omega)
    exact ⟨a, ha⟩
  obtain ⟨F, hF⟩ := Classical.axiomOfChoice hex
  exact ⟨F, h, hF, hb⟩
theorem Tells.lt {f : Frs} {F : Int → Int} (h : Tells f F) (t : Int) : 0 ≤ F t ∧ F t < f.answers.length := by
  obtain ⟨h0, h1, h2, h3, h4⟩ := frs_good h.ok
  obtain ⟨a, ha, b1, b2⟩ := lf_ex f.nodes f.answers.length t h4 f.nodes.length (f.nodes.length - 1) (by omega) (by omega)
  rw [(h.lf t).one ha]
  exact ⟨b1, b2⟩
theorem pcsM_len (f : Frs) (F : Int → Int) : (pcsM f F).length = (pcsOf f.nodes F).length := by simp [pcsM]
theorem pcsM_rise (f : Frs) (F : Int → Int) : RiseP (pcsM f F) := by
  have := rise_pair.1 (pcsOf_rise f.nodes F)
  refine rise_pair.2 ?_
  unfold pcsM
  rw [← List.map_drop, List.map_map]
  exact this
theorem atPc_M {f : Frs} {F : Int → Int} {t : Int} {i : Nat} : AtPc (pcsM f F) t i ↔ AtPc (pcsOf f.nodes F) t i := by
  unfold AtPc pcsM
  simp only [List.length_map, List.getElem_map]
theorem optP_pos (f : Frs) (F : Int → Int) (m : Bool) : 0 < (optP f F m).length := by
  unfold optP
  cases m
  · simp [pcsOf]
  · simp only [if_true]
    exact (ddp_inv _ (pcsM f F) rfl).pos (by rw [pcsM_len]; simp [pcsOf])
theorem optP_rise (f : Frs) (F : Int → Int) (m : Bool) : RiseP (optP f F m) := by
  unfold optP
  cases m
  · simp only [Bool.false_eq_true, if_false]; exact pcsOf_rise _ _
  · simp only [if_true]; exact (ddp_inv _ (pcsM f F) rfl).rise (pcsM_rise f F)
theorem optP_le (f : Frs) (F : Int → Int) (m : Bool) : (optP f F m).length ≤ (cuts f.nodes).length + 1 := by
  unfold optP
  cases m
  · simp only [Bool.false_eq_true, if_false]; rw [pcsOf_len]; exact Nat.le_refl _
  · simp only [if_true]
    have := (ddp_inv _ (pcsM f F) rfl).le
    rw [pcsM_len, pcsOf_len] at this
    exact this
theorem pcsOf_an {f : Frs} {F : Int → Int} (h : Tells f F) : ∀ p ∈ pcsOf f.nodes F, 0 ≤ p.an ∧ p.an < f.answers.length := by
  intro p hp
  unfold pcsOf at hp
  rcases List.mem_cons.1 hp with rfl | hp
  · exact h.lt _
  · obtain ⟨x, _, rfl⟩ := List.mem_map.1 hp
    exact h.lt _
theorem now_img {f : Frs} {a : Int} (h0 : 0 ≤ a) (h1 : a < f.answers.length) : 0 ≤ nowAt (mg f.answers).2 a ∧ ∃ h2 : (nowAt (mg f.answers).2 a).toNat < (mg f.answers).1.length, (mg f.answers).1[(nowAt (mg f.answers).2 a).toNat] = f.answers[a.toNat]'(by omega) := by
  obtain ⟨g1, g2, g3, g4⟩ := (mg_inv _ f.answers rfl).img a.toNat (by omega)
  have e : nowAt (mg f.answers).2 a = (mg f.answers).2[a.toNat] := by
    unfold nowAt
    rw [List.getD_eq_getElem?_getD, List.getElem?_eq_getElem g1]; rfl
  simp only [e]
  exact ⟨g2, g3, g4⟩
theorem optP_an {f : Frs} {F : Int → Int} (h : Tells f F) (m : Bool) : ∀ p ∈ optP f F m, 0 ≤ p.an ∧ p.an < (optAns f m).length := by
  intro p hp
  unfold optP at hp
  unfold optAns
  cases m
  · simp only [Bool.false_eq_true, if_false] at hp ⊢; exact pcsOf_an h p hp
  · simp only [if_true] at hp ⊢
    have := (ddp_inv _ (pcsM f F) rfl).mem p hp
    obtain ⟨q, hq, rfl⟩ := List.mem_map.1 this
    obtain ⟨a, b⟩ := pcsOf_an h q hq
    obtain ⟨c, d, _⟩ := now_img a b
    dsimp only
    omega
/-- the piece at t tells what the forest tells. -/
theorem optP_tells {f : Frs} {F : Int → Int} (h : Tells f F) (m : Bool) {t : Int} (ht : minI ≤ t) : ∃ i, ∃ hi : i < (optP f F m).length, AtPc (optP f F m) t i ∧ ∃ h2 : ((optP f F m)[i].an).toNat < (optAns f m).length, (optAns f m)[((optP f F m)[i].an).toNat] = f.answers[(F t).toNat]'(by have := h.lt t; omega) := by
  obtain ⟨i, hi, hat⟩ := atPc_ex (ps := pcsOf f.nodes F) (by simp [pcsOf]) (pcsOf_rise _ _) t
  have he := pcsOf_tells h.bd h.lf ht hi hat
  have hF := h.lt t
  unfold optP optAns
  cases m
  · simp only [Bool.false_eq_true, if_false]
    refine ⟨i, hi, hat, ?_⟩
    simp only [he]
    exact ⟨by omega, trivial⟩
  · simp only [if_true]
    obtain ⟨j, hj, hat', e⟩ := (ddp_inv _ (pcsM f F) rfl).at_ t i (by rw [pcsM_len]; exact hi) (atPc_M.2 hat)
    refine ⟨j, hj, hat', ?_⟩
    have e2 : (pcsM f F)[i]'(by rw [pcsM_len]; exact hi) = ⟨(pcsOf f.nodes F)[i].fr, nowAt (mg f.answers).2 (F t)⟩ := by
      unfold pcsM; rw [List.getElem_map, he]
    rw [e2] at e
    simp only [e]
    exact (now_img hF.1 hF.2).2
theorem optN_ok {f : Frs} {F : Int → Int} (h : Tells f F) (m b : Bool) : ∀ i (hi : i < (optN b (optP f F m)).length), nodE ((optAns f m).length : Int) (i : Nat) (optN b (optP f F m))[i] = 0 :=
  optN_good b _ (optP_pos f F m) (optP_an h m)
theorem optN_rootAt {ps : List Pc} (b : Bool) (h0 : 0 < ps.length) : (optN b ps).length - 1 = 2 * ps.length - 2 := by rw [optN_len b h0]; omega
theorem OptIs.root {f g : Frs} {F : Int → Int} {m s b : Bool} (h : Tells f F) (hg : OptIs f F m s b g) {t : Int} {a : Int} {n : Nat} (hL : Lp (optN b (optP f F m)) t ((optN b (optP f F m)).length - 1) a n) : Lp g.nodes t (g.nodes.length - 1) a n := by
  have hn := hg.nods
  cases s
  · simp only [Bool.false_eq_true, if_false] at hn; rw [hn]; exact hL
  · simp only [if_true] at hn
    obtain ⟨now, hs⟩ := hn
    have hr := hs.root (optN_ok h m b) (optN_askU b (optP_pos f F m) (optP_rise f F m)) (optN_root b (optP_pos f F m))
    have := hs.lp (optN_ok h m b) hL
    rw [hr.2] at this
    exact this
theorem OptIs.tells {f g : Frs} {F : Int → Int} {m s b : Bool} (h : Tells f F) (hg : OptIs f F m s b g) {t : Int} (ht : minI ≤ t) :
    ∃ (j : Nat) (n : Nat), Lp g.nodes t (g.nodes.length - 1) j n ∧ (∃ h2 : j < g.answers.length, g.answers[j] = f.answers[(F t).toNat]'(by have := h.lt t; omega)) ∧ (b = true → ∀ q, (cuts f.nodes).length + 1 ≤ 2 ^ q → n ≤ q + 1) := by
  obtain ⟨i, hi, hat, h2, h3⟩ := optP_tells h m ht
  obtain ⟨n, hn, hb⟩ := optN_lp b hi hat
  have ha := (optP_an h m _ (List.getElem_mem hi)).1
  refine ⟨((optP f F m)[i].an).toNat, n, ?_, ?_, fun e q hq => hb e q (Nat.le_trans (optP_le f F m) hq)⟩
  · rw [Int.toNat_of_nonneg ha]
    exact hg.root h hn
  · simp only [hg.ans]
    exact ⟨h2, h3⟩
theorem OptIs.nodes_ok {f g : Frs} {F : Int → Int} {m s b : Bool} (h : Tells f F) (hg : OptIs f F m s b g) : 0 < g.nodes.length ∧ ∀ i (hi : i < g.nodes.length), nodE (g.answers.length : Int) (i : Nat) g.nodes[i] = 0 := by
  have hn := hg.nods
  have ok := optN_ok h m b
  have hp := optP_pos f F m
  rw [hg.ans]
  cases s
  · simp only [Bool.false_eq_true, if_false] at hn
    rw [hn]
    exact ⟨by rw [optN_len b hp]; omega, ok⟩
  · simp only [if_true] at hn
    obtain ⟨now, hs⟩ := hn
    have hr := hs.root ok (optN_askU b hp (optP_rise f F m)) (optN_root b hp)
    exact ⟨hr.1, hs.good ok⟩
theorem optAns_mem {f : Frs} {m : Bool} : ∀ a ∈ optAns f m, a ∈ f.answers := by
  intro a ha
  unfold optAns at ha
  cases m
  · simpa using ha
  · simp only [if_true] at ha
    obtain ⟨i, hi, rfl⟩ := List.mem_iff_getElem.1 ha
    exact (mg_inv _ f.answers rfl).src i hi
theorem optAns_le (f : Frs) (m : Bool) : (optAns f m).length ≤ f.answers.length := by
  unfold optAns
  cases m
  · simp
  · simp only [if_true]; exact (mg_inv _ f.answers rfl).le
theorem OptIs.good {f g : Frs} {F : Int → Int} {m s b : Bool} (h : Tells f F) (hg : OptIs f F m s b g) (h8 : g.nodes.length ≤ 8000) : frsE g = 0 := by
  obtain ⟨h0, h1, h2, h3, h4⟩ := frs_good h.ok
  obtain ⟨n0, n1⟩ := hg.nodes_ok h
  have hl : g.answers.length ≤ f.answers.length := by rw [hg.ans]; exact optAns_le f m
  unfold frsE
  rw [if_neg (by omega), if_neg (by omega)]
  have ha : anssE g.answers = 0 := ferr_none _ _ _ fun i hi => by
    have hm : g.answers[i] ∈ optAns f m := by rw [← hg.ans]; exact List.getElem_mem hi
    obtain ⟨j, hj, e⟩ := List.mem_iff_getElem.1 (optAns_mem _ hm)
    rw [← e]
    exact h3 j hj
  rw [if_neg (by simpa using ha)]
  refine ferr_none _ _ _ fun i hi => ?_
  rw [Nat.zero_add]
  exact n1 i hi
def szP (s : Bool) (ps : List Pc) : Nat := if s = true then (ps.length - 1) + (srtC (ps.map Pc.an)).length else 2 * ps.length - 1
theorem OptIs.size {f g : Frs} {F : Int → Int} {m s b : Bool} (h : Tells f F) (hg : OptIs f F m s b g) : g.nodes.length = szP s (optP f F m) := by
  have hn := hg.nods
  have hp := optP_pos f F m
  unfold szP
  cases s
  · simp only [Bool.false_eq_true, if_false] at hn ⊢
    rw [hn, optN_len b hp]
  · simp only [if_true] at hn ⊢
    obtain ⟨now, hs⟩ := hn
    rw [hs.size (optN_ok h m b) (optN_askU b hp (optP_rise f F m)), (optN_bnds b hp).length_eq, List.length_map, List.length_drop, srtC_len_eq (optN_lvs b hp)]
theorem srtC_pos {l : List Int} (h : 0 < l.length) : 0 < (srtC l).length := by
  cases l with
  | nil => simp at h
  | cons a l => exact List.length_pos_of_mem ((srtC_mem (a :: l) a).2 (by simp))
theorem szP_le (s : Bool) (ps : List Pc) : szP s ps ≤ 2 * ps.length - 1 := by
  unfold szP
  cases s
  · simp
  · simp only [if_true]
    have := srtC_len (ps.map Pc.an)
    rw [List.length_map] at this
    omega
theorem sz_merge (f : Frs) (F : Int → Int) (s : Bool) : szP s (optP f F true) ≤ szP s (optP f F false) := by
  have h1 : (optP f F true).length ≤ (optP f F false).length := by
    have := optP_le f F true
    have e : (optP f F false).length = (cuts f.nodes).length + 1 := pcsOf_len _ _
    omega
  have h2 : (srtC ((optP f F true).map Pc.an)).length ≤ (srtC ((optP f F false).map Pc.an)).length := by
    refine Nat.le_trans (srtC_len_le (m := ((optP f F false).map Pc.an).map (nowAt (mg f.answers).2)) fun x hx => ?_) (srtC_map_le _)
    obtain ⟨p, hp, rfl⟩ := List.mem_map.1 hx
    have := (ddp_inv _ (pcsM f F) rfl).mem p hp
    obtain ⟨q, hq, rfl⟩ := List.mem_map.1 this
    exact List.mem_map.2 ⟨q.an, List.mem_map.2 ⟨q, hq, rfl⟩, rfl⟩
  unfold szP
  cases s
  · simp only [Bool.false_eq_true, if_false]; omega
  · simp only [if_true]; omega
theorem OptIs.ans_dup {f g : Frs} {F : Int → Int} {s b : Bool} (hg : OptIs f F true s b g) : ∀ i j (hi : i < g.answers.length) (hj : j < g.answers.length), i ≠ j → g.answers[i] ≠ g.answers[j] := by
  rw [hg.ans]
  exact (mg_inv _ f.answers rfl).dup
theorem OptIs.nod_dup {f g : Frs} {F : Int → Int} {m b : Bool} (hg : OptIs f F m true b g) : ∀ i j (hi : i < g.nodes.length) (hj : j < g.nodes.length), i ≠ j → g.nodes[i] ≠ g.nodes[j] := by
  obtain ⟨now, hs⟩ := hg.nods
  exact hs.dup
end Go.Proofs.YtdpbedkppomffaaGreatDoor
