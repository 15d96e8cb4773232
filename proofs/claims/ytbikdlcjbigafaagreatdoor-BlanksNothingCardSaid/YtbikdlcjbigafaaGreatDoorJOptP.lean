/-
  Numbers, sorted, each once: plain. tree.Opt, plain: what a forest tells between its bounds; a balanced tree of pieces. tree.balanced, plain: a balanced tree of pieces. tree.shared, plain: trees that are the same are one. tree.merged, plain: answers that are the same are one, neighbours with one answer are one. tree.Opt, plain: sizes; the whole. tree.Opt, plain: what the forest that is made less tells, its size, its depth. · Spans, plain: what is told at points that rise, each change once; points at which nothing changes may be left out. · What a clock is called, plain: formats that may be. · The contract of strings.Replace, laid (the shelf's tool lay-plain printed the laying; the numbers by name).
-/
import Derived.Lib.SlicesCompact
import Derived.Lib.Replace
import Derived.Lib.CountLaws
import Derived.Lib.IndexMore
import Derived.Lib.IndexLaws
import Derived.Shelf.Strings.Replace
import Derived.Shelf.Lays
import Derived.Shelf.LaysM
import Derived.Test.YtbikdlcjbigafaaGreatDoorJBase
import Derived.Test.YtbikdlcjbigafaaGreatDoorJTreeT
import Derived.Test.YtbikdlcjbigafaaGreatDoorJZonW0
import Derived.Test.YtbikdlcjbigafaaGreatDoorProg
namespace Go.Proofs.YtbikdlcjbigafaaGreatDoor
set_option linter.unusedVariables false
set_option linter.unusedSimpArgs false
open Go.ChangeShapes Go.WideShapes Go.ChangeAt Go.RowKit

def srt (zs : List Int) : List Int := zs.mergeSort fun x y => decide (x ≤ y)
theorem srt_perm (zs : List Int) : (srt zs).Perm zs := List.mergeSort_perm _ _
theorem srt_len (zs : List Int) : (srt zs).length = zs.length := (srt_perm zs).length_eq
theorem srt_mem (zs : List Int) (x : Int) : x ∈ srt zs ↔ x ∈ zs := (srt_perm zs).mem_iff
theorem srt_sorted (zs : List Int) : (srt zs).Pairwise (· ≤ ·) := by
  have h := List.pairwise_mergeSort (le := fun x y : Int => decide (x ≤ y)) (fun a b c => by simp; omega) (fun a b => by simp; omega) zs
  exact h.imp fun h => by simpa using h
/-- sorted, each once. -/
def srtC (zs : List Int) : List Int := Lib.compact (srt zs)
theorem upTo_facts {d : Array Int} (hs : ∀ i j, i < j → j < d.size → d[i]! ≤ d[j]!) : ∀ m, m ≤ d.size → (Lib.compactUpTo d m).Pairwise (· < ·) ∧ (∀ x, x ∈ Lib.compactUpTo d m ↔ ∃ i, i < m ∧ d[i]! = x)
  | 0, _ => by simp [Lib.compactUpTo]
  | m + 1, hm => by
    obtain ⟨h1, h2⟩ := upTo_facts hs m (by omega)
    rw [Lib.compactUpTo_succ]
    by_cases hk : Lib.keeps d m = true
    · rw [if_pos hk]
      refine ⟨?_, fun x => ?_⟩
      · rw [List.pairwise_append]
        refine ⟨h1, by simp, fun a ha b hb => ?_⟩
        obtain rfl : b = d[m]! := by simpa using hb
        obtain ⟨i, hi, rfl⟩ := (h2 a).1 ha
        have hk' : m = 0 ∨ d[m]! ≠ d[m - 1]! := by simpa [Lib.keeps] using hk
        have hm0 : 0 < m := by omega
        have hne : d[m]! ≠ d[m - 1]! := hk'.resolve_left (by omega)
        have h3 := hs (m - 1) m (by omega) (by omega)
        by_cases e : i = m - 1
        · subst e; omega
        · have := hs i (m - 1) (by omega) (by omega)
          omega
      · rw [List.mem_append, h2]
        constructor
        · rintro (⟨i, hi, rfl⟩ | h)
          · exact ⟨i, by omega, rfl⟩
          · exact ⟨m, by omega, (List.mem_singleton.1 h).symm⟩
        · rintro ⟨i, hi, rfl⟩
          by_cases e : i = m
          · subst e; exact .inr (by simp)
          · exact .inl ⟨i, by omega, rfl⟩
    · rw [if_neg hk, List.append_nil]
      refine ⟨h1, fun x => ?_⟩
      rw [h2]
      have hk' : ¬ (m = 0 ∨ d[m]! ≠ d[m - 1]!) := by simpa [Lib.keeps] using hk
      have hm0 : 0 < m := by omega
      have he : d[m]! = d[m - 1]! := by
        by_cases e : d[m]! = d[m - 1]!
        · exact e
        · exact absurd (Or.inr e) hk'
      constructor
      · rintro ⟨i, hi, rfl⟩
        exact ⟨i, by omega, rfl⟩
      · rintro ⟨i, hi, rfl⟩
        by_cases e : i = m
        · subst e; exact ⟨i - 1, by omega, he.symm⟩
        · exact ⟨i, by omega, rfl⟩
theorem arr_sorted {zs : List Int} (h : zs.Pairwise (· ≤ ·)) : ∀ i j, i < j → j < zs.toArray.size → zs.toArray[i]! ≤ zs.toArray[j]! := by
  intro i j hij hj
  have hj' : j < zs.length := by simpa using hj
  rw [getElem!_pos zs.toArray i (by simp; omega), getElem!_pos zs.toArray j hj]
  simp only [List.getElem_toArray]
  exact List.pairwise_iff_getElem.1 h i j (by omega) hj' hij
theorem srtC_rise (zs : List Int) : (srtC zs).Pairwise (· < ·) := (upTo_facts (arr_sorted (srt_sorted zs)) _ (by simp)).1
theorem srtC_mem (zs : List Int) (x : Int) : x ∈ srtC zs ↔ x ∈ zs := by
  unfold srtC Lib.compact
  rw [(upTo_facts (arr_sorted (srt_sorted zs)) _ (by simp)).2, ← srt_mem]
  constructor
  · rintro ⟨i, hi, rfl⟩
    rw [getElem!_pos (srt zs).toArray i (by simpa using hi)]
    simp
  · intro h
    obtain ⟨i, hi, rfl⟩ := List.mem_iff_getElem.1 h
    exact ⟨i, hi, by rw [getElem!_pos (srt zs).toArray i (by simpa using hi)]; simp⟩
theorem compact_le (zs : List Int) : (Lib.compact zs).length ≤ zs.length := by
  unfold Lib.compact Lib.compactUpTo
  rw [List.length_map]
  exact Nat.le_trans (List.length_filter_le _ _) (by simp)
theorem srtC_len (zs : List Int) : (srtC zs).length ≤ zs.length := Nat.le_trans (compact_le _) (by rw [srt_len]; exact Nat.le_refl _)
end Go.Proofs.YtbikdlcjbigafaaGreatDoor
namespace Go.Proofs.YtbikdlcjbigafaaGreatDoor
set_option linter.unusedVariables false
set_option linter.unusedSimpArgs false
open Go.ChangeShapes Go.WideShapes Go.ChangeAt Go.RowKit

end Go.Proofs.YtbikdlcjbigafaaGreatDoor
namespace Go.Proofs.YtbikdlcjbigafaaGreatDoor
set_option linter.unusedVariables false
set_option linter.unusedSimpArgs false
open Go.ChangeShapes Go.WideShapes Go.ChangeAt Go.RowKit

end Go.Proofs.YtbikdlcjbigafaaGreatDoor
namespace Go.Proofs.YtbikdlcjbigafaaGreatDoor
set_option linter.unusedVariables false
set_option linter.unusedSimpArgs false
open Go.ChangeShapes Go.WideShapes Go.ChangeAt Go.RowKit

end Go.Proofs.YtbikdlcjbigafaaGreatDoor
namespace Go.Proofs.YtbikdlcjbigafaaGreatDoor
set_option linter.unusedVariables false
set_option linter.unusedSimpArgs false
open Go.ChangeShapes Go.WideShapes Go.ChangeAt Go.RowKit

end Go.Proofs.YtbikdlcjbigafaaGreatDoor
namespace Go.Proofs.YtbikdlcjbigafaaGreatDoor
set_option linter.unusedVariables false
set_option linter.unusedSimpArgs false
open Go.ChangeShapes Go.WideShapes Go.ChangeAt Go.RowKit

end Go.Proofs.YtbikdlcjbigafaaGreatDoor
namespace Go.Proofs.YtbikdlcjbigafaaGreatDoor
set_option linter.unusedVariables false
set_option linter.unusedSimpArgs false
open Go.ChangeShapes Go.WideShapes Go.ChangeAt Go.RowKit

end Go.Proofs.YtbikdlcjbigafaaGreatDoor

namespace Go.Proofs.YtbikdlcjbigafaaGreatDoor
set_option linter.unusedVariables false
set_option linter.unusedSimpArgs false
open Go.ChangeShapes Go.WideShapes Go.ChangeAt Go.RowKit Civ

instance : DecidableEq Clk := fun a b =>
  if h : a.off = b.off ∧ a.sav = b.sav ∧ a.nm = b.nm then isTrue (by obtain ⟨a1, a2, a3⟩ := a; obtain ⟨b1, b2, b3⟩ := b; obtain ⟨h1, h2, h3⟩ := h; dsimp only at h1 h2 h3; rw [h1, h2, h3])
  else isFalse (fun e => h (by rw [e]; exact ⟨rfl, rfl, rfl⟩))
/-- a point more: what is told at it, unless it is what was told last. -/
def addP (C : Int → Clk) (out : List Spn) (t : Int) : List Spn :=
  match out.getLast? with
  | some p => if p.ck = C t then out else out ++ [⟨t, C t⟩]
  | none => [⟨t, C t⟩]
theorem addP_nil (C : Int → Clk) (t : Int) : addP C [] t = [⟨t, C t⟩] := rfl
theorem addP_last (C : Int → Clk) (out : List Spn) (t : Int) : ∃ p, (addP C out t).getLast? = some p ∧ p.ck = C t := by
  unfold addP
  split
  · rename_i p h
    split
    · exact ⟨p, h, by assumption⟩
    · exact ⟨⟨t, C t⟩, by simp, rfl⟩
  · exact ⟨⟨t, C t⟩, by simp, rfl⟩
theorem addP_same {C : Int → Clk} {out : List Spn} {t : Int} {p : Spn} (h : out.getLast? = some p) (e : p.ck = C t) : addP C out t = out := by
  unfold addP; rw [h]; simp [e]
theorem addP_congr {C C' : Int → Clk} {t : Int} (h : C t = C' t) (out : List Spn) : addP C out t = addP C' out t := by
  unfold addP; rw [h]
theorem foldP_congr {C C' : Int → Clk} : ∀ (l : List Int) (out : List Spn), (∀ t ∈ l, C t = C' t) → l.foldl (addP C) out = l.foldl (addP C') out
  | [], _, _ => rfl
  | t :: l, out, h => by
    rw [List.foldl_cons, List.foldl_cons, addP_congr (h t (by simp)) out]
    exact foldP_congr l _ fun x hx => h x (List.mem_cons_of_mem _ hx)
theorem foldP_sub (C : Int → Clk) (p : Int → Bool) : ∀ (l : List Int) (u : Int) (out : List Spn),
    (∃ q, out.getLast? = some q ∧ q.ck = C u) → (u :: l).Pairwise (· < ·) →
    (∀ t ∈ l, p t = false → ∀ v, v < t → (∀ x ∈ l, x ≤ v ∨ t ≤ x) → u ≤ v → C v = C t) →
    l.foldl (addP C) out = (l.filter p).foldl (addP C) out
  | [], _, _, _, _, _ => rfl
  | t :: l, u, out, ⟨q, h1, h2⟩, hp, hC => by
    have hp1 := List.pairwise_cons.1 hp
    have hp2 := List.pairwise_cons.1 hp1.2
    have hut : u < t := hp1.1 t (by simp)
    have hC' : ∀ t' ∈ l, p t' = false → ∀ v, v < t' → (∀ x ∈ l, x ≤ v ∨ t' ≤ x) → t ≤ v → C v = C t' := fun t' ht' hpt v hv hx htv =>
      hC t' (List.mem_cons_of_mem _ ht') hpt v hv (fun x hx' => by
        rcases List.mem_cons.1 hx' with rfl | hx'
        · exact .inl htv
        · exact hx x hx') (by omega)
    rcases hpt : p t with _ | _
    · have e : C u = C t := hC t (by simp) hpt u hut (fun x hx => by
        rcases List.mem_cons.1 hx with rfl | hx
        · exact .inr (Int.le_refl _)
        · exact .inr (by have := hp2.1 x hx; omega)) (Int.le_refl _)
      have e1 : addP C out t = out := addP_same h1 (h2.trans e)
      rw [List.foldl_cons, e1, List.filter_cons_of_neg (by simp [hpt])]
      have hp3 : (u :: l).Pairwise (· < ·) := List.pairwise_cons.2 ⟨fun x hx => hp1.1 x (List.mem_cons_of_mem _ hx), hp2.2⟩
      exact foldP_sub C p l t out ⟨q, h1, h2.trans e⟩ hp1.2 hC'
    · rw [List.foldl_cons, List.filter_cons_of_pos hpt, List.foldl_cons]
      exact foldP_sub C p l t _ (addP_last C out t) hp1.2 hC'
/-- rising lists are told by their members. -/
theorem rise_ext : ∀ {l m : List Int}, l.Pairwise (· < ·) → m.Pairwise (· < ·) → (∀ x, x ∈ l ↔ x ∈ m) → l = m
  | [], [], _, _, _ => rfl
  | [], y :: m, _, _, h => by simpa using (h y).2 (by simp)
  | x :: l, [], _, _, h => by simpa using (h x).1 (by simp)
  | x :: l, y :: m, hl, hm, h => by
    have hl1 := List.pairwise_cons.1 hl
    have hm1 := List.pairwise_cons.1 hm
    have e : x = y := by
      rcases List.mem_cons.1 ((h x).1 (by simp)) with e | e
      · exact e
      · rcases List.mem_cons.1 ((h y).2 (by simp)) with e' | e'
        · exact e'.symm
        · have := hm1.1 x e
          have := hl1.1 y e'
          omega
    subst e
    rw [rise_ext hl1.2 hm1.2 fun z => ?_]
    constructor
    · intro hz
      rcases List.mem_cons.1 ((h z).1 (by simp [hz])) with e | e
      · have := hl1.1 z hz; omega
      · exact e
    · intro hz
      rcases List.mem_cons.1 ((h z).2 (by simp [hz])) with e | e
      · have := hm1.1 z hz; omega
      · exact e
/-- the whole: two lists of points that rise from the same first one; what the second one has more tells nothing new. -/
theorem foldP_two (C : Int → Clk) (u : Int) (l m : List Int) (hl : (u :: l).Pairwise (· < ·)) (hm : (u :: m).Pairwise (· < ·)) (hs : ∀ x ∈ l, x ∈ m)
    (hC : ∀ v t, u ≤ v → v < t → t ∈ m → (∀ x ∈ l, x ≤ v ∨ t < x) → C v = C t) : (u :: m).foldl (addP C) [] = (u :: l).foldl (addP C) [] := by
  rw [List.foldl_cons, List.foldl_cons]
  have e : l = m.filter fun x => decide (x ∈ l) := by
    refine rise_ext (List.pairwise_cons.1 hl).2 ((List.pairwise_cons.1 hm).2.filter _) fun x => ?_
    rw [List.mem_filter, decide_eq_true_iff]
    exact ⟨fun h => ⟨hs x h, h⟩, fun h => h.2⟩
  rw [foldP_sub C (fun x => decide (x ∈ l)) m u (addP C [] u) (addP_last C [] u) hm ?_, ← e]
  intro t ht hpt v hv hx huv
  refine hC v t huv hv ht fun x hxl => ?_
  rcases hx x (hs x hxl) with h | h
  · exact .inl h
  · right
    rcases Int.lt_or_eq_of_le h with h | h
    · exact h
    · subst h
      simp [hxl] at hpt
/-- the window. -/
def lowI (ends : List Int) (i : Nat) : Int := if i = 0 then -2208988800 else max (-2208988800) (ends.getD (i - 1) 0)
def highI (ends : List Int) (i : Nat) : Int := if i < ends.length then min 4102444800 (ends.getD i 0) else 4102444800
def chgI (rules : List Rul) (x : Ero) (lo hi : Int) : List Int := srtC (if x.rl = ByteArray.empty then [] else ((trE rules x).map Trn.ins).filter fun t => decide (lo < t) && decide (t < hi))
/-- points of an era. -/
def ptsI (rules : List Rul) (x : Ero) (lo hi : Int) : List Int := if lo < hi then lo :: chgI rules x lo hi else []
def clkI (rules : List Rul) (x : Ero) (t : Int) : Clk := clkE x (stL rules x (trE rules x) t)
/-- spans of an era, behind others. -/
def spnI (rules : List Rul) (x : Ero) (lo hi : Int) (out : List Spn) : List Spn := (ptsI rules x lo hi).foldl (addP (clkI rules x)) out
/-- spans of the first so many eras. -/
def spnK (rules : List Rul) (eras : List Ero) (ends : List Int) : Nat → List Spn
  | 0 => []
  | k + 1 => match eras[k]? with
    | some x => spnI rules x (lowI ends k) (highI ends k) (spnK rules eras ends k)
    | none => spnK rules eras ends k
def spnZ (rules : List Rul) (eras : List Ero) : List Spn := spnK rules eras (untL rules eras) eras.length
theorem chgI_mem {rules : List Rul} {x : Ero} {lo hi t : Int} : t ∈ chgI rules x lo hi ↔ (x.rl ≠ ByteArray.empty ∧ (∃ c ∈ trE rules x, c.ins = t) ∧ lo < t ∧ t < hi) := by
  unfold chgI
  rw [srtC_mem]
  split
  · rename_i h
    constructor
    · intro h'; cases h'
    · intro h'; exact absurd h h'.1
  · rename_i h
    rw [List.mem_filter, List.mem_map, Bool.and_eq_true, decide_eq_true_iff, decide_eq_true_iff]
    constructor
    · rintro ⟨⟨c, h1, h2⟩, h3, h4⟩
      exact ⟨h, ⟨c, h1, h2⟩, h3, h4⟩
    · rintro ⟨-, ⟨c, h1, h2⟩, h3, h4⟩
      exact ⟨⟨c, h1, h2⟩, h3, h4⟩
theorem ptsI_rise (rules : List Rul) (x : Ero) (lo hi : Int) : (ptsI rules x lo hi).Pairwise (· < ·) := by
  unfold ptsI
  split
  · refine List.pairwise_cons.2 ⟨fun t ht => (chgI_mem.1 ht).2.2.1, srtC_rise _⟩
  · exact List.Pairwise.nil
theorem ptsI_in {rules : List Rul} {x : Ero} {lo hi t : Int} (h : t ∈ ptsI rules x lo hi) : lo ≤ t ∧ t < hi := by
  unfold ptsI at h
  split at h
  · rcases List.mem_cons.1 h with rfl | h
    · exact ⟨Int.le_refl _, by assumption⟩
    · have := chgI_mem.1 h
      omega
  · cases h
/-- all points of the first so many eras. -/
def ptsK (rules : List Rul) (eras : List Ero) (ends : List Int) : Nat → List Int
  | 0 => []
  | k + 1 => match eras[k]? with
    | some x => ptsK rules eras ends k ++ ptsI rules x (lowI ends k) (highI ends k)
    | none => ptsK rules eras ends k
/-- the clock at an instant. -/
def clkT (rules : List Rul) (eras : List Ero) (ends : List Int) (t : Int) : Clk := match eras[eraI ends t]? with
  | some x => clkI rules x t
  | none => ⟨0, false, ByteArray.empty⟩
def Rise (l : List Int) : Prop := ∀ (i : Nat) (h : i + 1 < l.length), l[i] < l[i + 1]
theorem Rise.lt {l : List Int} (h : Rise l) : ∀ (d i : Nat) (hj : i + d + 1 < l.length), l[i] < l[i + d + 1]
  | 0, i, hj => h i hj
  | d + 1, i, hj => by
    have h1 := h.lt d i (by omega)
    have h2 := h (i + d + 1) (by omega)
    exact Int.lt_trans h1 h2
theorem Rise.lt' {l : List Int} (h : Rise l) {i j : Nat} (hij : i < j) (hj : j < l.length) : l[i]'(by omega) < l[j] := by
  obtain ⟨d, rfl⟩ : ∃ d, j = i + d + 1 := ⟨j - i - 1, by omega⟩
  exact h.lt d i hj
theorem eraI_le (ends : List Int) (t : Int) : eraI ends t ≤ ends.length := by
  unfold eraI
  exact (List.takeWhile_prefix _).length_le
theorem eraI_cons (e : Int) (l : List Int) (t : Int) : eraI (e :: l) t = if e ≤ t then eraI l t + 1 else 0 := by
  unfold eraI
  rw [List.takeWhile_cons]
  by_cases h : e ≤ t <;> simp [h]
theorem eraI_lt : ∀ (ends : List Int) (t : Int) (j : Nat) (hj : j < ends.length), j < eraI ends t → ends[j] ≤ t
  | [], _, _, hj, _ => by simp at hj
  | e :: l, t, j, hj, h => by
    rw [eraI_cons] at h
    split at h
    · rcases j with _ | j
      · assumption
      · exact eraI_lt l t j (by simpa using hj) (by omega)
    · omega
theorem eraI_ge : ∀ (ends : List Int) (t : Int) (h : eraI ends t < ends.length), t < ends[eraI ends t]
  | [], _, h => by simp at h
  | e :: l, t, h => by
    by_cases he : e ≤ t
    · have h1 : eraI (e :: l) t = eraI l t + 1 := by rw [eraI_cons, if_pos he]
      have h2 := eraI_ge l t (by rw [h1] at h; simpa using h)
      simp only [h1, List.getElem_cons_succ]
      exact h2
    · have h1 : eraI (e :: l) t = 0 := by rw [eraI_cons, if_neg he]
      simp only [h1, List.getElem_cons_zero]
      omega
theorem getD_atI {l : List Int} {i : Nat} (h : i < l.length) (d : Int) : l.getD i d = l[i] := by simp [List.getD, h]
/-- between its bounds it is this era. -/
theorem eraI_at {ends : List Int} (hr : Rise ends) {t : Int} {i : Nat} (hi : i ≤ ends.length) (h1 : lowI ends i ≤ t) (h2 : t < highI ends i) : eraI ends t = i := by
  have hle := eraI_le ends t
  unfold lowI at h1
  unfold highI at h2
  rcases Nat.lt_trichotomy (eraI ends t) i with h | h | h
  · have h3 := eraI_ge ends t (by omega)
    have hi0 : ¬ i = 0 := by omega
    rw [if_neg hi0, getD_atI (by omega)] at h1
    by_cases e : eraI ends t = i - 1
    · simp only [e] at h3
      omega
    · have := hr.lt' (i := eraI ends t) (j := i - 1) (by omega) (by omega)
      omega
  · exact h
  · have h3 := eraI_lt ends t i (by omega) h
    rw [if_pos (by omega), getD_atI (by omega)] at h2
    omega
theorem eraI_low {ends : List Int} {t : Int} (h0 : -2208988800 ≤ t) : lowI ends (eraI ends t) ≤ t := by
  unfold lowI
  split
  · exact h0
  · have hle := eraI_le ends t
    rw [getD_atI (by omega)]
    have := eraI_lt ends t (eraI ends t - 1) (by omega) (by omega)
    omega
theorem eraI_high {ends : List Int} {t : Int} (h0 : t < 4102444800) : t < highI ends (eraI ends t) := by
  unfold highI
  split
  · rename_i h
    rw [getD_atI h]
    have := eraI_ge ends t h
    omega
  · exact h0
theorem highI_low {ends : List Int} (hr : Rise ends) {i j : Nat} (hij : i < j) (hj : j ≤ ends.length) : highI ends i ≤ lowI ends j := by
  unfold highI lowI
  rw [if_pos (by omega), if_neg (by omega), getD_atI (by omega), getD_atI (by omega)]
  by_cases e : i = j - 1
  · subst e; omega
  · have := hr.lt' (i := i) (j := j - 1) (by omega) (by omega)
    omega
theorem ptsK_mem {rules : List Rul} {eras : List Ero} {ends : List Int} {t : Int} : ∀ {k : Nat}, k ≤ eras.length → (t ∈ ptsK rules eras ends k ↔ ∃ i, ∃ h : i < eras.length, i < k ∧ t ∈ ptsI rules eras[i] (lowI ends i) (highI ends i))
  | 0, _ => by
    constructor
    · intro h; cases h
    · rintro ⟨i, h, h', -⟩; omega
  | k + 1, hk => by
    have e : eras[k]? = some (eras[k]'(by omega)) := List.getElem?_eq_getElem (by omega)
    unfold ptsK
    rw [e]
    dsimp only
    rw [List.mem_append, ptsK_mem (k := k) (by omega)]
    constructor
    · rintro (⟨i, h, h1, h2⟩ | h2)
      · exact ⟨i, h, by omega, h2⟩
      · exact ⟨k, by omega, by omega, h2⟩
    · rintro ⟨i, h, h1, h2⟩
      by_cases e : i = k
      · subst e; exact .inr h2
      · exact .inl ⟨i, h, by omega, h2⟩
theorem ptsK_rise {rules : List Rul} {eras : List Ero} {ends : List Int} (hr : Rise ends) (hl : ends.length + 1 = eras.length) : ∀ k, k ≤ eras.length → (ptsK rules eras ends k).Pairwise (· < ·)
  | 0, _ => List.Pairwise.nil
  | k + 1, hk => by
    have e : eras[k]? = some (eras[k]'(by omega)) := List.getElem?_eq_getElem (by omega)
    unfold ptsK
    rw [e]
    dsimp only
    refine List.pairwise_append.2 ⟨ptsK_rise hr hl k (by omega), ptsI_rise _ _ _ _, fun a ha b hb => ?_⟩
    obtain ⟨i, hi, hik, ha⟩ := (ptsK_mem (by omega)).1 ha
    have h1 := ptsI_in ha
    have h2 := ptsI_in hb
    have h3 := highI_low hr hik (by omega)
    omega
theorem spnK_pts {rules : List Rul} {eras : List Ero} {ends : List Int} (hr : Rise ends) (hl : ends.length + 1 = eras.length) : ∀ k, k ≤ eras.length → spnK rules eras ends k = (ptsK rules eras ends k).foldl (addP (clkT rules eras ends)) []
  | 0, _ => rfl
  | k + 1, hk => by
    have e : eras[k]? = some (eras[k]'(by omega)) := List.getElem?_eq_getElem (by omega)
    unfold spnK ptsK
    rw [e]
    dsimp only
    rw [List.foldl_append, ← spnK_pts hr hl k (by omega)]
    unfold spnI
    refine foldP_congr _ _ fun t ht => ?_
    have h1 := ptsI_in ht
    have h2 := eraI_at hr (by omega) h1.1 h1.2
    unfold clkT
    rw [h2, e]
/-- the points of the document: the window's beginning, ends, all turns. -/
def ptsA (rules : List Rul) (eras : List Ero) (ends : List Int) : List Int := -2208988800 :: (ends ++ eras.flatMap fun x => (trE rules x).map Trn.ins)
def winP (t : Int) : Bool := decide (-2208988800 ≤ t) && decide (t < 4102444800)
/-- the document's spans. -/
def spnR (rules : List Rul) (eras : List Ero) (ends : List Int) : List Spn := ((srtC (ptsA rules eras ends)).filter winP).foldl (addP (clkT rules eras ends)) []
theorem find_congr {α : Type} {p q : α → Bool} : ∀ {l : List α}, (∀ x ∈ l, p x = q x) → l.find? p = l.find? q
  | [], _ => rfl
  | x :: l, h => by
    rw [List.find?_cons, List.find?_cons, h x (by simp), find_congr (l := l) fun y hy => h y (List.mem_cons_of_mem _ hy)]
theorem stL_same {rules : List Rul} {x : Ero} {T : List Trn} {v t : Int} (hvt : v < t) (h : x.rl ≠ ByteArray.empty → ∀ c ∈ T, c.ins ≤ v ∨ t < c.ins) : stL rules x T v = stL rules x T t := by
  unfold stL
  split
  · rfl
  · rename_i hx
    have e : lastT T v = lastT T t := by
      unfold lastT
      refine find_congr fun c hc => ?_
      have := h hx c (List.mem_reverse.1 hc)
      rw [decide_eq_decide]
      omega
    rw [e]
theorem head_of_rise {u : Int} {l : List Int} (hl : l.Pairwise (· < ·)) (hu : u ∈ l) (hle : ∀ x ∈ l, u ≤ x) : ∃ m, l = u :: m := by
  cases l with
  | nil => cases hu
  | cons y m =>
    rcases List.mem_cons.1 hu with rfl | h
    · exact ⟨m, rfl⟩
    · have h1 := (List.pairwise_cons.1 hl).1 u h
      have h2 := hle y (by simp)
      omega
/-- both tell the same. -/
theorem spnR_eq {rules : List Rul} {eras : List Ero} {ends : List Int} (hr : Rise ends) (hl : ends.length + 1 = eras.length) : spnR rules eras ends = spnK rules eras ends eras.length := by
  rw [spnK_pts hr hl _ (Nat.le_refl _)]
  unfold spnR
  have hP := ptsK_rise (rules := rules) hr hl eras.length (Nat.le_refl _)
  have hA : ((srtC (ptsA rules eras ends)).filter winP).Pairwise (· < ·) := (srtC_rise _).filter _
  have hAm : ∀ t, t ∈ (srtC (ptsA rules eras ends)).filter winP ↔ t ∈ ptsA rules eras ends ∧ -2208988800 ≤ t ∧ t < 4102444800 := fun t => by
    rw [List.mem_filter, srtC_mem, winP, Bool.and_eq_true, decide_eq_true_iff, decide_eq_true_iff]
  have hPm : ∀ t, t ∈ ptsK rules eras ends eras.length ↔ ∃ i, ∃ h : i < eras.length, t ∈ ptsI rules eras[i] (lowI ends i) (highI ends i) := fun t => by
    rw [ptsK_mem (Nat.le_refl _)]
    exact ⟨fun ⟨i, h, _, h2⟩ => ⟨i, h, h2⟩, fun ⟨i, h, h2⟩ => ⟨i, h, h, h2⟩⟩
  -- the window's beginning is a point of both
  have hw0 : (-2208988800 : Int) ∈ ptsK rules eras ends eras.length := by
    refine (hPm _).2 ⟨eraI ends (-2208988800), by have := eraI_le ends (-2208988800); omega, ?_⟩
    have h1 := eraI_low (ends := ends) (t := -2208988800) (by omega)
    have h2 := eraI_high (ends := ends) (t := -2208988800) (by omega)
    have h3 : -2208988800 ≤ lowI ends (eraI ends (-2208988800)) := by unfold lowI; split <;> omega
    have h4 : lowI ends (eraI ends (-2208988800)) = -2208988800 := by omega
    unfold ptsI
    rw [if_pos (by omega), h4]
    simp
  have hwin : ∀ t ∈ ptsK rules eras ends eras.length, -2208988800 ≤ t ∧ t < 4102444800 := fun t ht => by
    obtain ⟨i, hi, h⟩ := (hPm t).1 ht
    have h1 := ptsI_in h
    have h3 : -2208988800 ≤ lowI ends i := by unfold lowI; split <;> omega
    have h4 : highI ends i ≤ 4102444800 := by unfold highI; split <;> omega
    omega
  have hsub : ∀ t ∈ ptsK rules eras ends eras.length, t ∈ (srtC (ptsA rules eras ends)).filter winP := fun t ht => by
    have hb := hwin t ht
    refine (hAm t).2 ⟨?_, hb⟩
    obtain ⟨i, hi, h⟩ := (hPm t).1 ht
    unfold ptsA
    rw [List.mem_cons, List.mem_append]
    unfold ptsI at h
    split at h
    · rcases List.mem_cons.1 h with e | h
      · unfold lowI at e
        split at e
        · exact .inl e
        · rw [getD_atI (by omega)] at e
          by_cases h5 : ends[i - 1]'(by omega) ≤ -2208988800
          · exact .inl (by omega)
          · exact .inr (.inl (List.mem_iff_getElem.2 ⟨i - 1, by omega, by omega⟩))
      · obtain ⟨-, ⟨c, hc, e⟩, -⟩ := chgI_mem.1 h
        exact .inr (.inr (List.mem_flatMap.2 ⟨eras[i], List.getElem_mem hi, List.mem_map.2 ⟨c, hc, e⟩⟩))
    · cases h
  obtain ⟨l, el⟩ := head_of_rise hP hw0 fun x hx => (hwin x hx).1
  obtain ⟨m, em⟩ := head_of_rise hA (hsub _ hw0) fun x hx => ((hAm x).1 hx).2.1
  rw [el] at hP hsub
  rw [em] at hA hsub
  rw [el, em]
  refine foldP_two _ _ l m hP hA (fun x hx => ?_) ?_
  · rcases List.mem_cons.1 (hsub x (List.mem_cons_of_mem _ hx)) with e | e
    · have := (List.pairwise_cons.1 hP).1 x hx; omega
    · exact e
  · intro v t huv hvt htm hno
    have htA := (hAm t).1 (by rw [em]; exact List.mem_cons_of_mem _ htm)
    -- no point of ours lies in (v, t]
    have hno' : ∀ x, x ∈ ptsK rules eras ends eras.length → x ≤ v ∨ t < x := fun x hx => by
      rw [el] at hx
      rcases List.mem_cons.1 hx with rfl | hx
      · exact .inl huv
      · exact hno x hx
    -- one era
    have hev := eraI_le ends v
    have het := eraI_le ends t
    have elow := eraI_low (ends := ends) (t := t) (by omega)
    have ehigh := eraI_high (ends := ends) (t := t) (by omega)
    have hpt : lowI ends (eraI ends t) ∈ ptsK rules eras ends eras.length := by
      refine (hPm _).2 ⟨eraI ends t, by omega, ?_⟩
      unfold ptsI
      rw [if_pos (by omega)]
      simp
    have hlv : lowI ends (eraI ends t) ≤ v := by
      rcases hno' _ hpt with h | h
      · exact h
      · omega
    have he : eraI ends v = eraI ends t := eraI_at hr het hlv (by omega)
    unfold clkT
    rw [he]
    have hx : eras[eraI ends t]? = some (eras[eraI ends t]'(by omega)) := List.getElem?_eq_getElem (by omega)
    rw [hx]
    dsimp only
    unfold clkI
    rw [stL_same hvt]
    intro hrl c hc
    by_cases h1 : c.ins ≤ v
    · exact .inl h1
    · by_cases h2 : t < c.ins
      · exact .inr h2
      · exfalso
        have hpc : c.ins ∈ ptsK rules eras ends eras.length := by
          refine (hPm _).2 ⟨eraI ends t, by omega, ?_⟩
          unfold ptsI
          rw [if_pos (by omega)]
          refine List.mem_cons_of_mem _ (chgI_mem.2 ⟨hrl, ⟨c, hc, rfl⟩, by omega, by omega⟩)
        rcases hno' _ hpc with h | h <;> omega
end Go.Proofs.YtbikdlcjbigafaaGreatDoor

namespace Go.Proofs.YtbikdlcjbigafaaGreatDoor
set_option linter.unusedVariables false
set_option linter.unusedSimpArgs false
open Go.ChangeShapes Go.WideShapes Go.ChangeAt Go.RowKit Civ

/-- what a clock asks of an era, of what is saved, of letters. -/
structure COk (x : Ero) (sv : Int) (lt : ByteArray) : Prop where
  f : fmtL x.fm.data.toList = true
  o : -86400 ≤ x.off ∧ x.off ≤ 86400
  s : -86400 ≤ sv ∧ sv ≤ 86400
  l : lt.size ≤ 6
theorem fmt_len {l : List UInt8} (h : fmtL l = true) : 1 ≤ (l.length : Int) ∧ (l.length : Int) ≤ 12 := by
  by_cases e : 1 ≤ (l.length : Int) ∧ (l.length : Int) ≤ 12
  · exact e
  · rw [fmt_size e] at h; cases h
/-- the first mark, replaced. -/
theorem replace_one (fm lt : List UInt8) : Lib.replace fm [37, 115] lt 1 = if 0 ≤ Lib.index fm [37, 115] then fm.take (Lib.index fm [37, 115]).toNat ++ (lt ++ fm.drop ((Lib.index fm [37, 115]).toNat + 2)) else fm := by
  unfold Lib.replace
  have hge := Lib.index_ge fm [37, 115]
  by_cases hm : Lib.index fm [37, 115] = -1
  · have e1 : (if 0 ≤ Lib.index fm [37, 115] then fm.take (Lib.index fm [37, 115]).toNat ++ (lt ++ fm.drop ((Lib.index fm [37, 115]).toNat + 2)) else fm) = fm := if_neg (by omega)
    rw [e1]
    split
    · rfl
    · cases Lib.replaceNum fm [37, 115] 1 with
      | zero => rfl
      | succ k => unfold Lib.replaceK; rw [hm]; rfl
  · have e1 : (if 0 ≤ Lib.index fm [37, 115] then fm.take (Lib.index fm [37, 115]).toNat ++ (lt ++ fm.drop ((Lib.index fm [37, 115]).toNat + 2)) else fm) = fm.take (Lib.index fm [37, 115]).toNat ++ (lt ++ fm.drop ((Lib.index fm [37, 115]).toNat + 2)) := if_pos (by omega)
    rw [e1]
    have hc : Lib.replaceNum fm [37, 115] 1 = 1 := by
      unfold Lib.replaceNum
      rw [if_neg]
      · rfl
      · intro h
        rcases h with h | h
        · omega
        · have h0 : Lib.count fm [37, 115] = 0 := by omega
          rcases ix_cases fm [37, 115] with e | ⟨k, e, -⟩
          · exact hm e
          · have := Lib.count_hit (by simp) e
            omega
    have hf : fm = fm.take (Lib.index fm [37, 115]).toNat ++ ([37, 115] ++ fm.drop ((Lib.index fm [37, 115]).toNat + 2)) := by
      rcases Lib.index_spec fm [37, 115] with ⟨m, -⟩ | ⟨k, hk, hkl, ho, -⟩
      · exact absurd m hm
      · rw [hk, Int.toNat_natCast]
        rw [occ2] at ho
        obtain ⟨h1, h2⟩ := Bool.and_eq_true_iff.1 ho
        have h1 : fm[k]? = some 37 := by simpa using h1
        have h2 : fm[k + 1]? = some 115 := by simpa using h2
        obtain ⟨l1, e1⟩ := List.getElem?_eq_some_iff.1 h1
        obtain ⟨l2, e2⟩ := List.getElem?_eq_some_iff.1 h2
        have e3 : fm.drop k = 37 :: 115 :: fm.drop (k + 2) := by
          rw [List.drop_eq_getElem_cons l1, e1, List.drop_eq_getElem_cons l2, e2]
        calc fm = fm.take k ++ fm.drop k := (List.take_append_drop _ _).symm
          _ = _ := by rw [e3]; rfl
    split
    · rename_i hb
      have hb : [37, 115] = lt := by simpa using hb
      rw [← hb]
      exact hf
    · rw [hc]
      unfold Lib.replaceK
      rw [if_neg (by simpa using hm)]
      unfold Lib.replaceK
      rw [List.append_assoc]
      rfl
/-- what a clock is called, by cases. -/
theorem fmtN_slash {fm lt : List UInt8} {k : Nat} (h : Lib.index fm [47] = k) (sv : Bool) : fmtN fm lt sv = if sv then fm.drop (k + 1) else fm.take k := by
  unfold fmtN
  rw [h, if_pos (by omega), Int.toNat_natCast]
theorem fmtN_no {fm lt : List UInt8} (h : Lib.index fm [47] = -1) (sv : Bool) : fmtN fm lt sv = Lib.replace fm [37, 115] lt 1 := by
  unfold fmtN
  rw [h, if_neg (by omega), replace_one]
end Go.Proofs.YtbikdlcjbigafaaGreatDoor

namespace Go.Proofs.YtbikdlcjbigafaaGreatDoor
open Go.Shelf
def Sh.lays154_ren : Go.Shelf.Ren := ⟨fun | 154 => 47 | 138 => 84 | 165 => 85 | 143 => 86 | 166 => 87 | 197 => 88 | 169 => 89 | 195 => 130 | 218 => 131 | 240 => 132 | 241 => 133 | 219 => 134 | 260 => 135 | 276 => 166 | 277 => 167 | 217 => 151 | 225 => 168 | 224 => 169 | 267 => 170 | 266 => 179 | 314 => 189 | n => n, fun | 9 => 9 | 3 => 3 | 4 => 4 | 72 => 159 | 0 => 0 | 76 => 162 | 105 => 164 | 21 => 21 | 5 => 5 | 70 => 156 | 20 => 20 | 37 => 157 | 75 => 161 | 127 => 200 | 164 => 229 | 46 => 172 | 119 => 232 | 139 => 235 | 138 => 234 | 146 => 248 | 51 => 209 | 80 => 166 | n => n, fun | 1 => 2 | 3 => 3 | 4 => 4 | n => n⟩
theorem Sh.lays154 : Go.Proofs.Lays.n154 Tryz.prog Sh.lays154_ren := {
  mixed := by kernel_rfl
  f138 := Tryz.func84.trans (congrArg some (by kernel_rfl))
  f143 := Tryz.func86.trans (congrArg some (by kernel_rfl))
  f154 := Tryz.func47.trans (congrArg some (by kernel_rfl))
  f165 := Tryz.func85.trans (congrArg some (by kernel_rfl))
  f166 := Tryz.func87.trans (congrArg some (by kernel_rfl))
  f169 := Tryz.func89.trans (congrArg some (by kernel_rfl))
  f195 := Tryz.func130.trans (congrArg some (by kernel_rfl))
  f197 := Tryz.func88.trans (congrArg some (by kernel_rfl))
  f217 := Tryz.func151.trans (congrArg some (by kernel_rfl))
  f218 := Tryz.func131.trans (congrArg some (by kernel_rfl))
  f219 := Tryz.func134.trans (congrArg some (by kernel_rfl))
  f224 := Tryz.func169.trans (congrArg some (by kernel_rfl))
  f225 := Tryz.func168.trans (congrArg some (by kernel_rfl))
  f240 := Tryz.func132.trans (congrArg some (by kernel_rfl))
  f241 := Tryz.func133.trans (congrArg some (by kernel_rfl))
  f260 := Tryz.func135.trans (congrArg some (by kernel_rfl))
  f266 := Tryz.func179.trans (congrArg some (by kernel_rfl))
  f267 := Tryz.func170.trans (congrArg some (by kernel_rfl))
  f276 := Tryz.func166.trans (congrArg some (by kernel_rfl))
  f277 := Tryz.func167.trans (congrArg some (by kernel_rfl))
  f314 := Tryz.func189.trans (congrArg some (by kernel_rfl))
  t0 := Tryz.underlying0
  a0 := Tryz.isAgg0
  z0 := Tryz.sizeOf0
  v0 := Tryz.zeroValue0
  t3 := Tryz.underlying3
  a3 := Tryz.isAgg3
  z3 := Tryz.sizeOf3
  v3 := Tryz.zeroValue3
  t4 := Tryz.underlying4
  a4 := Tryz.isAgg4
  z4 := Tryz.sizeOf4
  v4 := Tryz.zeroValue4
  t5 := Tryz.underlying5
  a5 := Tryz.isAgg5
  z5 := Tryz.sizeOf5
  v5 := Tryz.zeroValue5
  t9 := Tryz.underlying9
  a9 := Tryz.isAgg9
  z9 := Tryz.sizeOf9
  v9 := Tryz.zeroValue9
  t20 := Tryz.underlying20
  a20 := Tryz.isAgg20
  z20 := Tryz.sizeOf20
  v20 := Tryz.zeroValue20
  t21 := Tryz.underlying21
  a21 := Tryz.isAgg21
  z21 := Tryz.sizeOf21
  v21 := Tryz.zeroValue21
  t37 := Tryz.underlying157
  a37 := Tryz.isAgg157
  z37 := Tryz.sizeOf157
  v37 := Tryz.zeroValue157
  t46 := Tryz.underlying172
  a46 := Tryz.isAgg172
  z46 := Tryz.sizeOf172
  v46 := Tryz.zeroValue172
  t51 := Tryz.underlying209
  a51 := Tryz.isAgg209
  z51 := Tryz.sizeOf209
  v51 := Tryz.zeroValue209
  t70 := Tryz.underlying156
  a70 := Tryz.isAgg156
  z70 := Tryz.sizeOf156
  v70 := Tryz.zeroValue156
  t72 := Tryz.underlying159
  a72 := Tryz.isAgg159
  z72 := Tryz.sizeOf159
  v72 := Tryz.zeroValue159
  t75 := Tryz.underlying161
  a75 := Tryz.isAgg161
  z75 := Tryz.sizeOf161
  v75 := Tryz.zeroValue161
  t76 := Tryz.underlying162
  a76 := Tryz.isAgg162
  z76 := Tryz.sizeOf162
  v76 := Tryz.zeroValue162
  t105 := Tryz.underlying164
  a105 := Tryz.isAgg164
  z105 := Tryz.sizeOf164
  v105 := Tryz.zeroValue164
  t119 := Tryz.underlying232
  a119 := Tryz.isAgg232
  z119 := Tryz.sizeOf232
  t127 := Tryz.underlying200
  a127 := Tryz.isAgg200
  z127 := Tryz.sizeOf200
  v127 := Tryz.zeroValue200
  t138 := Tryz.underlying234
  a138 := Tryz.isAgg234
  z138 := Tryz.sizeOf234
  v138 := Tryz.zeroValue234
  t139 := Tryz.underlying235
  a139 := Tryz.isAgg235
  z139 := Tryz.sizeOf235
  v139 := Tryz.zeroValue235
  t146 := Tryz.underlying248
  a146 := Tryz.isAgg248
  z146 := Tryz.sizeOf248
  v146 := Tryz.zeroValue248
  t164 := Tryz.underlying229
  a164 := Tryz.isAgg229
  z164 := Tryz.sizeOf229
  v164 := Tryz.zeroValue229
  g1 := by kernel_rfl
  g3 := by kernel_rfl
  g4 := by kernel_rfl }
theorem Sh.Builder_Extra_154 : Builder.Extra Tryz.prog Sh.lays154_ren := {
  sizeBuilder := by kernel_rfl
  liesBuilder := by kernel_rfl
  t5 := Tryz.underlying5
  a5 := Tryz.isAgg5
  z5 := Tryz.sizeOf5
  v5 := Tryz.zeroValue5
  infoByte := by kernel_rfl
  cellsByte := by kernel_rfl
  sizeByte := by kernel_rfl
  neB5 := by decide }
open Go.RowKit Go.Lib in
theorem Sh.strings_Replace (s old new : ByteArray) (n : Int) (m : Int) (w : World) (hs : s.size < 4294967281) (hm : w.cell? ⟨2, 0, none⟩ = some (.int .i64 m)) (h1 : 1 ≤ old.size) (hlen : s.size + Lib.countB s old * new.size ≤ 140737488355328) :
    Calls Tryz.prog 47 #[.string s, .string old, .string new, .int .i64 n] w fun e w' =>
      e = .returned (.string ⟨(Lib.replace s.data.toList old.data.toList new.data.toList n).toArray⟩) ∧ Below w.heap.size w w' := Any.strings_Replace Sh.lays154 Sh.Builder_Extra_154 s old new n m w hs hm h1 hlen
end Go.Proofs.YtbikdlcjbigafaaGreatDoor
