/-
  Numbers, sorted, each once: plain. tree.Opt, plain: what a forest tells between its bounds; a balanced tree of pieces. tree.balanced, plain: a balanced tree of pieces. tree.shared, plain: trees that are the same are one. tree.merged, plain: answers that are the same are one, neighbours with one answer are one. tree.Opt, plain: sizes; the whole. tree.Opt, plain: what the forest that is made less tells, its size, its depth. · Spans, plain: what is told at points that rise, each change once; points at which nothing changes may be left out. · What a clock is called, plain: formats that may be. · The contract of strings.Replace, laid (the shelf's tool lay-plain printed the laying; the numbers by name).
-/
import Derived.Lib.SlicesCompact
import Derived.Lib.Replace
import Derived.Lib.CountLaws
import Derived.Lib.IndexMore
import Derived.Lib.IndexLaws
import Derived.Shelf.Strings.Replace
import Derived.Shelf.Lays
import Derived.Shelf.LaysM
import Derived.Test.YtbikdlcjbigafaaGreatDoorJBase
import Derived.Test.YtbikdlcjbigafaaGreatDoorJTreeT
import Derived.Test.YtbikdlcjbigafaaGreatDoorJZonW0
import Derived.Test.YtbikdlcjbigafaaGreatDoorProg
namespace Go.Proofs.YtbikdlcjbigafaaGreatDoor
set_option linter.unusedVariables false
set_option linter.unusedSimpArgs false
open Go.ChangeShapes Go.WideShapes Go.ChangeAt Go.RowKit

def srt (zs : List Int) : List Int := zs.mergeSort fun x y => decide (x ≤ y)
theorem srt_perm (zs : List Int) : (srt zs).Perm zs := List.mergeSort_perm _ _
theorem srt_len (zs : List Int) : (srt zs).length = zs.length := (srt_perm zs).length_eq
theorem srt_mem (zs : List Int) (x : Int) : x ∈ srt zs ↔ x ∈ zs := (srt_perm zs).mem_iff
theorem srt_sorted (zs : List Int) : (srt zs).Pairwise (· ≤ ·) := by
  have h := List.pairwise_mergeSort (le := fun x y : Int => decide (x ≤ y)) (fun a b c => by simp; omega) (fun a b => by simp; omega) zs
  exact h.imp fun h => by simpa using h
/-- sorted, each once. -/
def srtC (zs : List Int) : List Int := Lib.compact (srt zs)
theorem upTo_facts {d : Array Int} (hs : ∀ i j, i < j → j < d.size → d[i]! ≤ d[j]!) : ∀ m, m ≤ d.size → (Lib.compactUpTo d m).Pairwise (· < ·) ∧ (∀ x, x ∈ Lib.compactUpTo d m ↔ ∃ i, i < m ∧ d[i]! = x)
  | 0, _ => by simp [Lib.compactUpTo]
  | m + 1, hm => by
    obtain ⟨h1, h2⟩ := upTo_facts hs m (by omega)
    rw [Lib.compactUpTo_succ]
    by_cases hk : Lib.keeps d m = true
    · rw [if_pos hk]
      refine ⟨?_, fun x => ?_⟩
      · rw [List.pairwise_append]
        refine ⟨h1, by simp, fun a ha b hb => ?_⟩
        obtain rfl : b = d[m]! := by simpa using hb
        obtain ⟨i, hi, rfl⟩ := (h2 a).1 ha
        have hk' : m = 0 ∨ d[m]! ≠ d[m - 1]! := by simpa [Lib.keeps] using hk
        have hm0 : 0 < m := by omega
        have hne : d[m]! ≠ d[m - 1]! := hk'.resolve_left (by omega)
        have h3 := hs (m - 1) m (by omega) (by omega)
        by_cases e : i = m - 1
        · subst e; omega
        · have := hs i (m - 1) (by omega) (by omega)
          omega
      · rw [List.mem_append, h2]
        constructor
        · rintro (⟨i, hi, rfl⟩ | h)
          · exact ⟨i, by omega, rfl⟩
          · exact ⟨m, by omega, (List.mem_singleton.1 h).symm⟩
        · rintro ⟨i, hi, rfl⟩
          by_cases e : i = m
          · subst e; exact .inr (by simp)
          · exact .inl ⟨i, by omega, rfl⟩
    · rw [if_neg hk, List.append_nil]
      refine ⟨h1, fun x => ?_⟩
      rw [h2]
      have hk' : ¬ (m = 0 ∨ d[m]! ≠ d[m - 1]!) := by simpa [Lib.keeps] using hk
      have hm0 : 0 < m := by omega
      have he : d[m]! = d[m - 1]! := by
        by_cases e : d[m]! = d[m - 1]!
        · exact e
        · exact absurd (Or.inr e) hk'
      constructor
      · rintro ⟨i, hi, rfl⟩
        exact ⟨i, by omega, rfl⟩
      · rintro ⟨i, hi, rfl⟩
        by_cases e : i = m
        · subst e; exact ⟨i - 1, by omega, he.symm⟩
        · exact ⟨i, by omega, rfl⟩
theorem arr_sorted {zs : List Int} (h : zs.Pairwise (· ≤ ·)) : ∀ i j, i < j → j < zs.toArray.size → zs.toArray[i]! ≤ zs.toArray[j]! := by
  intro i j hij hj
  have hj' : j < zs.length := by simpa using hj
  rw [getElem!_pos zs.toArray i (by simp; omega), getElem!_pos zs.toArray j hj]
  simp only [List.getElem_toArray]
  exact List.pairwise_iff_getElem.1 h i j (by omega) hj' hij
theorem srtC_rise (zs : List Int) : (srtC zs).Pairwise (· < ·) := (upTo_facts (arr_sorted (srt_sorted zs)) _ (by simp)).1
theorem srtC_mem (zs : List Int) (x : Int) : x ∈ srtC zs ↔ x ∈ zs := by
  unfold srtC Lib.compact
  rw [(upTo_facts (arr_sorted (srt_sorted zs)) _ (by simp)).2, ← srt_mem]
  constructor
  · rintro ⟨i, hi, rfl⟩
    rw [getElem!_pos (srt zs).toArray i (by simpa using hi)]
    simp
  · intro h
    obtain ⟨i, hi, rfl⟩ := List.mem_iff_getElem.1 h
    exact ⟨i, hi, by rw [getElem!_pos (srt zs).toArray i (by simpa using hi)]; simp⟩
theorem compact_le (zs : List Int) : (Lib.compact zs).length ≤ zs.length := by
  unfold Lib.compact Lib.compactUpTo
  rw [List.length_map]
  exact Nat.le_trans (List.length_filter_le _ _) (by simp)
theorem srtC_len (zs : List Int) : (srtC zs).length ≤ zs.length := Nat.le_trans (compact_le _) (by rw [srt_len]; exact Nat.le_refl _)
end Go.Proofs.YtbikdlcjbigafaaGreatDoor
namespace Go.Proofs.YtbikdlcjbigafaaGreatDoor
set_option linter.unusedVariables false
set_option linter.unusedSimpArgs false
open Go.ChangeShapes Go.WideShapes Go.ChangeAt Go.RowKit

/-- as Lf, with how many nodes are asked. -/
inductive Lp (ns : List Nod) (t : Int) : Nat → Int → Nat → Prop
  | leaf (i : Nat) (h : i < ns.length) (e : ns[i].lf = true) : Lp ns t i ns[i].an 1
  | less (i k : Nat) (a : Int) (n : Nat) (h : i < ns.length) (e : ns[i].lf = false) (c : t < ns[i].bd) (hk : ns[i].ls = k) (hl : k < i) (r : Lp ns t k a n) : Lp ns t i a (n + 1)
  | more (i k : Nat) (a : Int) (n : Nat) (h : i < ns.length) (e : ns[i].lf = false) (c : ns[i].bd ≤ t) (hk : ns[i].mr = k) (hl : k < i) (r : Lp ns t k a n) : Lp ns t i a (n + 1)
theorem Lp.lf {ns : List Nod} {t : Int} {i : Nat} {a : Int} {n : Nat} (h : Lp ns t i a n) : Lf ns t i a := by
  induction h with
  | leaf i h e => exact Lf.leaf i h e
  | less i k a n h e c hk hl r ih => exact Lf.less i k a h e c hk hl ih
  | more i k a n h e c hk hl r ih => exact Lf.more i k a h e c hk hl ih
theorem Lf.lp {ns : List Nod} {t : Int} {i : Nat} {a : Int} (h : Lf ns t i a) : ∃ n, Lp ns t i a n := by
  induction h with
  | leaf i h e => exact ⟨1, Lp.leaf i h e⟩
  | less i k a h e c hk hl r ih => obtain ⟨n, ih⟩ := ih; exact ⟨n + 1, Lp.less i k a n h e c hk hl ih⟩
  | more i k a h e c hk hl r ih => obtain ⟨n, ih⟩ := ih; exact ⟨n + 1, Lp.more i k a n h e c hk hl ih⟩
theorem Lf.congr {ns : List Nod} {u t : Int} {i : Nat} {a : Int} (h : Lf ns u i a) (hb : ∀ n ∈ ns, n.lf = false → (n.bd ≤ u ↔ n.bd ≤ t)) : Lf ns t i a := by
  induction h with
  | leaf i h e => exact Lf.leaf i h e
  | less i k a h e c hk hl r ih => exact Lf.less i k a h e (by have := hb _ (List.getElem_mem h) e; omega) hk hl ih
  | more i k a h e c hk hl r ih => exact Lf.more i k a h e (by have := hb _ (List.getElem_mem h) e; omega) hk hl ih
theorem Lf.inv {ns : List Nod} {t : Int} {i : Nat} {b : Int} (h : Lf ns t i b) : ∃ hi : i < ns.length, (ns[i].lf = true ∧ b = ns[i].an) ∨ (ns[i].lf = false ∧ t < ns[i].bd ∧ ∃ k : Nat, ns[i].ls = k ∧ Lf ns t k b) ∨ (ns[i].lf = false ∧ ns[i].bd ≤ t ∧ ∃ k : Nat, ns[i].mr = k ∧ Lf ns t k b) := by
  induction h with
  | leaf i h e => exact ⟨h, .inl ⟨e, rfl⟩⟩
  | less i k a h e c hk hl r _ => exact ⟨h, .inr (.inl ⟨e, c, k, hk, r⟩)⟩
  | more i k a h e c hk hl r _ => exact ⟨h, .inr (.inr ⟨e, c, k, hk, r⟩)⟩
theorem Lf.one {ns : List Nod} {t : Int} {i : Nat} {a : Int} (h : Lf ns t i a) : ∀ {b : Int}, Lf ns t i b → a = b := by
  induction h with
  | leaf i h e =>
    intro b hb
    obtain ⟨_, ⟨e', h'⟩ | ⟨e', _⟩ | ⟨e', _⟩⟩ := hb.inv
    · exact h'.symm
    · rw [e] at e'; cases e'
    · rw [e] at e'; cases e'
  | less i k a h e c hk hl r ih =>
    intro b hb
    obtain ⟨_, ⟨e', h'⟩ | ⟨e', c', k', hk', r'⟩ | ⟨e', c', _⟩⟩ := hb.inv
    · rw [e] at e'; cases e'
    · have : k = k' := by have := hk.symm.trans hk'; omega
      subst this
      exact ih r'
    · omega
  | more i k a h e c hk hl r ih =>
    intro b hb
    obtain ⟨_, ⟨e', h'⟩ | ⟨e', c', _⟩ | ⟨e', c', k', hk', r'⟩⟩ := hb.inv
    · rw [e] at e'; cases e'
    · omega
    · have : k = k' := by have := hk.symm.trans hk'; omega
      subst this
      exact ih r'
end Go.Proofs.YtbikdlcjbigafaaGreatDoor
namespace Go.Proofs.YtbikdlcjbigafaaGreatDoor
set_option linter.unusedVariables false
set_option linter.unusedSimpArgs false
open Go.ChangeShapes Go.WideShapes Go.ChangeAt Go.RowKit

theorem Lp.append {ns : List Nod} (ms : List Nod) {t : Int} {i : Nat} {a : Int} {n : Nat} (h : Lp ns t i a n) : Lp (ns ++ ms) t i a n := by
  induction h with
  | leaf i h e =>
    have e1 : (ns ++ ms)[i]'(by rw [List.length_append]; omega) = ns[i] := List.getElem_append_left h
    have := Lp.leaf (ns := ns ++ ms) (t := t) i (by rw [List.length_append]; omega) (by rw [e1]; exact e)
    rw [e1] at this
    exact this
  | less i k a n h e c hk hl r ih =>
    have e1 : (ns ++ ms)[i]'(by rw [List.length_append]; omega) = ns[i] := List.getElem_append_left h
    exact Lp.less i k a n (by rw [List.length_append]; omega) (by rw [e1]; exact e) (by rw [e1]; exact c) (by rw [e1]; exact hk) hl ih
  | more i k a n h e c hk hl r ih =>
    have e1 : (ns ++ ms)[i]'(by rw [List.length_append]; omega) = ns[i] := List.getElem_append_left h
    exact Lp.more i k a n (by rw [List.length_append]; omega) (by rw [e1]; exact e) (by rw [e1]; exact c) (by rw [e1]; exact hk) hl ih
end Go.Proofs.YtbikdlcjbigafaaGreatDoor
namespace Go.Proofs.YtbikdlcjbigafaaGreatDoor
set_option linter.unusedVariables false
set_option linter.unusedSimpArgs false
open Go.ChangeShapes Go.WideShapes Go.ChangeAt Go.RowKit

end Go.Proofs.YtbikdlcjbigafaaGreatDoor
namespace Go.Proofs.YtbikdlcjbigafaaGreatDoor
set_option linter.unusedVariables false
set_option linter.unusedSimpArgs false
open Go.ChangeShapes Go.WideShapes Go.ChangeAt Go.RowKit

end Go.Proofs.YtbikdlcjbigafaaGreatDoor
namespace Go.Proofs.YtbikdlcjbigafaaGreatDoor
set_option linter.unusedVariables false
set_option linter.unusedSimpArgs false
open Go.ChangeShapes Go.WideShapes Go.ChangeAt Go.RowKit

end Go.Proofs.YtbikdlcjbigafaaGreatDoor
namespace Go.Proofs.YtbikdlcjbigafaaGreatDoor
set_option linter.unusedVariables false
set_option linter.unusedSimpArgs false
open Go.ChangeShapes Go.WideShapes Go.ChangeAt Go.RowKit

end Go.Proofs.YtbikdlcjbigafaaGreatDoor

namespace Go.Proofs.YtbikdlcjbigafaaGreatDoor
set_option linter.unusedVariables false
set_option linter.unusedSimpArgs false
open Go.ChangeShapes Go.WideShapes Go.ChangeAt Go.RowKit Civ

instance : DecidableEq Clk := fun a b =>
  if h : a.off = b.off ∧ a.sav = b.sav ∧ a.nm = b.nm then isTrue (by obtain ⟨a1, a2, a3⟩ := a; obtain ⟨b1, b2, b3⟩ := b; obtain ⟨h1, h2, h3⟩ := h; dsimp only at h1 h2 h3; rw [h1, h2, h3])
  else isFalse (fun e => h (by rw [e]; exact ⟨rfl, rfl, rfl⟩))
/-- a point more: what is told at it, unless it is what was told last. -/
def addP (C : Int → Clk) (out : List Spn) (t : Int) : List Spn :=
  match out.getLast? with
  | some p => if p.ck = C t then out else out ++ [⟨t, C t⟩]
  | none => [⟨t, C t⟩]
/-- the window. -/
def lowI (ends : List Int) (i : Nat) : Int := if i = 0 then -2208988800 else max (-2208988800) (ends.getD (i - 1) 0)
def highI (ends : List Int) (i : Nat) : Int := if i < ends.length then min 4102444800 (ends.getD i 0) else 4102444800
def chgI (rules : List Rul) (x : Ero) (lo hi : Int) : List Int := srtC (if x.rl = ByteArray.empty then [] else ((trE rules x).map Trn.ins).filter fun t => decide (lo < t) && decide (t < hi))
/-- points of an era. -/
def ptsI (rules : List Rul) (x : Ero) (lo hi : Int) : List Int := if lo < hi then lo :: chgI rules x lo hi else []
def clkI (rules : List Rul) (x : Ero) (t : Int) : Clk := clkE x (stL rules x (trE rules x) t)
/-- spans of an era, behind others. -/
def spnI (rules : List Rul) (x : Ero) (lo hi : Int) (out : List Spn) : List Spn := (ptsI rules x lo hi).foldl (addP (clkI rules x)) out
/-- spans of the first so many eras. -/
def spnK (rules : List Rul) (eras : List Ero) (ends : List Int) : Nat → List Spn
  | 0 => []
  | k + 1 => match eras[k]? with
    | some x => spnI rules x (lowI ends k) (highI ends k) (spnK rules eras ends k)
    | none => spnK rules eras ends k
def spnZ (rules : List Rul) (eras : List Ero) : List Spn := spnK rules eras (untL rules eras) eras.length
def Rise (l : List Int) : Prop := ∀ (i : Nat) (h : i + 1 < l.length), l[i] < l[i + 1]
theorem Rise.lt {l : List Int} (h : Rise l) : ∀ (d i : Nat) (hj : i + d + 1 < l.length), l[i] < l[i + d + 1]
  | 0, i, hj => h i hj
  | d + 1, i, hj => by
    have h1 := h.lt d i (by omega)
    have h2 := h (i + d + 1) (by omega)
    exact Int.lt_trans h1 h2
theorem getD_atI {l : List Int} {i : Nat} (h : i < l.length) (d : Int) : l.getD i d = l[i] := by simp [List.getD, h]
end Go.Proofs.YtbikdlcjbigafaaGreatDoor

namespace Go.Proofs.YtbikdlcjbigafaaGreatDoor
set_option linter.unusedVariables false
set_option linter.unusedSimpArgs false
open Go.ChangeShapes Go.WideShapes Go.ChangeAt Go.RowKit Civ

/-- what a clock asks of an era, of what is saved, of letters. -/
structure COk (x : Ero) (sv : Int) (lt : ByteArray) : Prop where
  f : fmtL x.fm.data.toList = true
  o : -86400 ≤ x.off ∧ x.off ≤ 86400
  s : -86400 ≤ sv ∧ sv ≤ 86400
  l : lt.size ≤ 6
theorem fmt_len {l : List UInt8} (h : fmtL l = true) : 1 ≤ (l.length : Int) ∧ (l.length : Int) ≤ 12 := by
  by_cases e : 1 ≤ (l.length : Int) ∧ (l.length : Int) ≤ 12
  · exact e
  · rw [fmt_size e] at h; cases h
/-- the first mark, replaced. -/
theorem replace_one (fm lt : List UInt8) : Lib.replace fm [37, 115] lt 1 = if 0 ≤ Lib.index fm [37, 115] then fm.take (Lib.index fm [37, 115]).toNat ++ (lt ++ fm.drop ((Lib.index fm [37, 115]).toNat + 2)) else fm := by
  unfold Lib.replace
  have hge := Lib.index_ge fm [37, 115]
  by_cases hm : Lib.index fm [37, 115] = -1
  · have e1 : (if 0 ≤ Lib.index fm [37, 115] then fm.take (Lib.index fm [37, 115]).toNat ++ (lt ++ fm.drop ((Lib.index fm [37, 115]).toNat + 2)) else fm) = fm := if_neg (by omega)
    rw [e1]
    split
    · rfl
    · cases Lib.replaceNum fm [37, 115] 1 with
      | zero => rfl
      | succ k => unfold Lib.replaceK; rw [hm]; rfl
  · have e1 : (if 0 ≤ Lib.index fm [37, 115] then fm.take (Lib.index fm [37, 115]).toNat ++ (lt ++ fm.drop ((Lib.index fm [37, 115]).toNat + 2)) else fm) = fm.take (Lib.index fm [37, 115]).toNat ++ (lt ++ fm.drop ((Lib.index fm [37, 115]).toNat + 2)) := if_pos (by omega)
    rw [e1]
    have hc : Lib.replaceNum fm [37, 115] 1 = 1 := by
      unfold Lib.replaceNum
      rw [if_neg]
      · rfl
      · intro h
        rcases h with h | h
        · omega
        · have h0 : Lib.count fm [37, 115] = 0 := by omega
          rcases ix_cases fm [37, 115] with e | ⟨k, e, -⟩
          · exact hm e
          · have := Lib.count_hit (by simp) e
            omega
    have hf : fm = fm.take (Lib.index fm [37, 115]).toNat ++ ([37, 115] ++ fm.drop ((Lib.index fm [37, 115]).toNat + 2)) := by
      rcases Lib.index_spec fm [37, 115] with ⟨m, -⟩ | ⟨k, hk, hkl, ho, -⟩
      · exact absurd m hm
      · rw [hk, Int.toNat_natCast]
        rw [occ2] at ho
        obtain ⟨h1, h2⟩ := Bool.and_eq_true_iff.1 ho
        have h1 : fm[k]? = some 37 := by simpa using h1
        have h2 : fm[k + 1]? = some 115 := by simpa using h2
        obtain ⟨l1, e1⟩ := List.getElem?_eq_some_iff.1 h1
        obtain ⟨l2, e2⟩ := List.getElem?_eq_some_iff.1 h2
        have e3 : fm.drop k = 37 :: 115 :: fm.drop (k + 2) := by
          rw [List.drop_eq_getElem_cons l1, e1, List.drop_eq_getElem_cons l2, e2]
        calc fm = fm.take k ++ fm.drop k := (List.take_append_drop _ _).symm
          _ = _ := by rw [e3]; rfl
    split
    · rename_i hb
      have hb : [37, 115] = lt := by simpa using hb
      rw [← hb]
      exact hf
    · rw [hc]
      unfold Lib.replaceK
      rw [if_neg (by simpa using hm)]
      unfold Lib.replaceK
      rw [List.append_assoc]
      rfl
/-- what a clock is called, by cases. -/
theorem fmtN_slash {fm lt : List UInt8} {k : Nat} (h : Lib.index fm [47] = k) (sv : Bool) : fmtN fm lt sv = if sv then fm.drop (k + 1) else fm.take k := by
  unfold fmtN
  rw [h, if_pos (by omega), Int.toNat_natCast]
theorem fmtN_no {fm lt : List UInt8} (h : Lib.index fm [47] = -1) (sv : Bool) : fmtN fm lt sv = Lib.replace fm [37, 115] lt 1 := by
  unfold fmtN
  rw [h, if_neg (by omega), replace_one]
end Go.Proofs.YtbikdlcjbigafaaGreatDoor

namespace Go.Proofs.YtbikdlcjbigafaaGreatDoor
open Go.Shelf
def Sh.lays154_ren : Go.Shelf.Ren := ⟨fun | 154 => 47 | 138 => 84 | 165 => 85 | 143 => 86 | 166 => 87 | 197 => 88 | 169 => 89 | 195 => 130 | 218 => 131 | 240 => 132 | 241 => 133 | 219 => 134 | 260 => 135 | 276 => 166 | 277 => 167 | 217 => 151 | 225 => 168 | 224 => 169 | 267 => 170 | 266 => 179 | 314 => 189 | n => n, fun | 9 => 9 | 3 => 3 | 4 => 4 | 72 => 159 | 0 => 0 | 76 => 162 | 105 => 164 | 21 => 21 | 5 => 5 | 70 => 156 | 20 => 20 | 37 => 157 | 75 => 161 | 127 => 200 | 164 => 229 | 46 => 172 | 119 => 232 | 139 => 235 | 138 => 234 | 146 => 248 | 51 => 209 | 80 => 166 | n => n, fun | 1 => 2 | 3 => 3 | 4 => 4 | n => n⟩
theorem Sh.lays154 : Go.Proofs.Lays.n154 Tryz.prog Sh.lays154_ren := {
  mixed := by kernel_rfl
  f138 := Tryz.func84.trans (congrArg some (by kernel_rfl))
  f143 := Tryz.func86.trans (congrArg some (by kernel_rfl))
  f154 := Tryz.func47.trans (congrArg some (by kernel_rfl))
  f165 := Tryz.func85.trans (congrArg some (by kernel_rfl))
  f166 := Tryz.func87.trans (congrArg some (by kernel_rfl))
  f169 := Tryz.func89.trans (congrArg some (by kernel_rfl))
  f195 := Tryz.func130.trans (congrArg some (by kernel_rfl))
  f197 := Tryz.func88.trans (congrArg some (by kernel_rfl))
  f217 := Tryz.func151.trans (congrArg some (by kernel_rfl))
  f218 := Tryz.func131.trans (congrArg some (by kernel_rfl))
  f219 := Tryz.func134.trans (congrArg some (by kernel_rfl))
  f224 := Tryz.func169.trans (congrArg some (by kernel_rfl))
  f225 := Tryz.func168.trans (congrArg some (by kernel_rfl))
  f240 := Tryz.func132.trans (congrArg some (by kernel_rfl))
  f241 := Tryz.func133.trans (congrArg some (by kernel_rfl))
  f260 := Tryz.func135.trans (congrArg some (by kernel_rfl))
  f266 := Tryz.func179.trans (congrArg some (by kernel_rfl))
  f267 := Tryz.func170.trans (congrArg some (by kernel_rfl))
  f276 := Tryz.func166.trans (congrArg some (by kernel_rfl))
  f277 := Tryz.func167.trans (congrArg some (by kernel_rfl))
  f314 := Tryz.func189.trans (congrArg some (by kernel_rfl))
  t0 := Tryz.underlying0
  a0 := Tryz.isAgg0
  z0 := Tryz.sizeOf0
  v0 := Tryz.zeroValue0
  t3 := Tryz.underlying3
  a3 := Tryz.isAgg3
  z3 := Tryz.sizeOf3
  v3 := Tryz.zeroValue3
  t4 := Tryz.underlying4
  a4 := Tryz.isAgg4
  z4 := Tryz.sizeOf4
  v4 := Tryz.zeroValue4
  t5 := Tryz.underlying5
  a5 := Tryz.isAgg5
  z5 := Tryz.sizeOf5
  v5 := Tryz.zeroValue5
  t9 := Tryz.underlying9
  a9 := Tryz.isAgg9
  z9 := Tryz.sizeOf9
  v9 := Tryz.zeroValue9
  t20 := Tryz.underlying20
  a20 := Tryz.isAgg20
  z20 := Tryz.sizeOf20
  v20 := Tryz.zeroValue20
  t21 := Tryz.underlying21
  a21 := Tryz.isAgg21
  z21 := Tryz.sizeOf21
  v21 := Tryz.zeroValue21
  t37 := Tryz.underlying157
  a37 := Tryz.isAgg157
  z37 := Tryz.sizeOf157
  v37 := Tryz.zeroValue157
  t46 := Tryz.underlying172
  a46 := Tryz.isAgg172
  z46 := Tryz.sizeOf172
  v46 := Tryz.zeroValue172
  t51 := Tryz.underlying209
  a51 := Tryz.isAgg209
  z51 := Tryz.sizeOf209
  v51 := Tryz.zeroValue209
  t70 := Tryz.underlying156
  a70 := Tryz.isAgg156
  z70 := Tryz.sizeOf156
  v70 := Tryz.zeroValue156
  t72 := Tryz.underlying159
  a72 := Tryz.isAgg159
  z72 := Tryz.sizeOf159
  v72 := Tryz.zeroValue159
  t75 := Tryz.underlying161
  a75 := Tryz.isAgg161
  z75 := Tryz.sizeOf161
  v75 := Tryz.zeroValue161
  t76 := Tryz.underlying162
  a76 := Tryz.isAgg162
  z76 := Tryz.sizeOf162
  v76 := Tryz.zeroValue162
  t105 := Tryz.underlying164
  a105 := Tryz.isAgg164
  z105 := Tryz.sizeOf164
  v105 := Tryz.zeroValue164
  t119 := Tryz.underlying232
  a119 := Tryz.isAgg232
  z119 := Tryz.sizeOf232
  t127 := Tryz.underlying200
  a127 := Tryz.isAgg200
  z127 := Tryz.sizeOf200
  v127 := Tryz.zeroValue200
  t138 := Tryz.underlying234
  a138 := Tryz.isAgg234
  z138 := Tryz.sizeOf234
  v138 := Tryz.zeroValue234
  t139 := Tryz.underlying235
  a139 := Tryz.isAgg235
  z139 := Tryz.sizeOf235
  v139 := Tryz.zeroValue235
  t146 := Tryz.underlying248
  a146 := Tryz.isAgg248
  z146 := Tryz.sizeOf248
  v146 := Tryz.zeroValue248
  t164 := Tryz.underlying229
  a164 := Tryz.isAgg229
  z164 := Tryz.sizeOf229
  v164 := Tryz.zeroValue229
  g1 := by kernel_rfl
  g3 := by kernel_rfl
  g4 := by kernel_rfl }
theorem Sh.Builder_Extra_154 : Builder.Extra Tryz.prog Sh.lays154_ren := {
  sizeBuilder := by kernel_rfl
  liesBuilder := by kernel_rfl
  t5 := Tryz.underlying5
  a5 := Tryz.isAgg5
  z5 := Tryz.sizeOf5
  v5 := Tryz.zeroValue5
  infoByte := by kernel_rfl
  cellsByte := by kernel_rfl
  sizeByte := by kernel_rfl
  neB5 := by decide }
open Go.RowKit Go.Lib in
theorem Sh.strings_Replace (s old new : ByteArray) (n : Int) (m : Int) (w : World) (hs : s.size < 4294967281) (hm : w.cell? ⟨2, 0, none⟩ = some (.int .i64 m)) (h1 : 1 ≤ old.size) (hlen : s.size + Lib.countB s old * new.size ≤ 140737488355328) :
    Calls Tryz.prog 47 #[.string s, .string old, .string new, .int .i64 n] w fun e w' =>
      e = .returned (.string ⟨(Lib.replace s.data.toList old.data.toList new.data.toList n).toArray⟩) ∧ Below w.heap.size w w' := Any.strings_Replace Sh.lays154 Sh.Builder_Extra_154 s old new n m w hs hm h1 hlen
end Go.Proofs.YtbikdlcjbigafaaGreatDoor
