/-
  What a clock is called, plain: formats that may be.
-/
import Derived.Lib.Replace
import Derived.Lib.CountLaws
import Derived.Lib.IndexMore
import Derived.Lib.IndexLaws
import Derived.Test.YtdpbedkppomffaaGreatDoorZonW0
namespace Go.Proofs.YtdpbedkppomffaaGreatDoor
set_option linter.unusedVariables false
set_option linter.unusedSimpArgs false
open Go.ChangeShapes Go.WideShapes Go.ChangeAt Go.RowKit Civ

/-- what a clock asks of an era, of what is saved, of letters. -/
structure COk (x : Ero) (sv : Int) (lt : ByteArray) : Prop where
  f : fmtL x.fm.data.toList = true
  o : -86400 ≤ x.off ∧ x.off ≤ 86400
  s : -86400 ≤ sv ∧ sv ≤ 86400
  l : lt.size ≤ 6
theorem sg_not {l : List UInt8} (h : sgL l = true) {c : UInt8} (hc : c = 47 ∨ c = 37) : ∀ i : Nat, l[i]? ≠ some c := by
  intro i e
  obtain ⟨hi, rfl⟩ := List.getElem?_eq_some_iff.1 e
  have := List.all_eq_true.1 h _ (List.getElem_mem hi)
  rcases hc with hc | hc <;> rw [hc] at this <;> exact absurd this (by decide)
theorem fmt_len {l : List UInt8} (h : fmtL l = true) : 1 ≤ (l.length : Int) ∧ (l.length : Int) ≤ 12 := by
  by_cases e : 1 ≤ (l.length : Int) ∧ (l.length : Int) ≤ 12
  · exact e
  · rw [fmt_size e] at h; cases h
/-- a format that may be: with a stroke; with a mark; plain. -/
theorem fmt_cases {l : List UInt8} (h : fmtL l = true) :
    (∃ k : Nat, Lib.index l [47] = k ∧ k + 1 ≤ l.length ∧ l[k]? = some 47 ∧ ∀ i, i < k → l[i]? ≠ some 47) ∨
    (Lib.index l [47] = -1 ∧ (∀ i : Nat, l[i]? ≠ some 47) ∧ ∃ k : Nat, Lib.index l [37, 115] = k ∧ k + 2 ≤ l.length ∧ l[k]? = some 37 ∧ ∀ i, i < k → l[i]? ≠ some 37) ∨
    (Lib.index l [47] = -1 ∧ (∀ i : Nat, l[i]? ≠ some 47) ∧ Lib.index l [37, 115] = -1 ∧ ∀ i : Nat, l[i]? ≠ some 37) := by
  have hl := fmt_len h
  rcases ix_cases l [47] with e | ⟨k, e, hk⟩
  · have hno : ∀ i : Nat, l[i]? ≠ some 47 := Lib.indexByte_none (by rw [← Lib.index_one]; exact e)
    right
    rcases Lib.index_spec l [37, 115] with ⟨m, hm⟩ | ⟨k, hk, hkl, ho, hn⟩
    · right
      rw [fmt_plain hl e m] at h
      exact ⟨e, hno, m, sg_not h (.inr rfl)⟩
    · left
      rw [occ2] at ho
      obtain ⟨h1, h2⟩ := Bool.and_eq_true_iff.1 ho
      have h1 : l[k]? = some 37 := by simpa using h1
      have h2 : l[k + 1]? = some 115 := by simpa using h2
      have h3 := (List.getElem?_eq_some_iff.1 h2).1
      rw [fmt_mark hl e hk] at h
      obtain ⟨g1, g2⟩ := Bool.and_eq_true_iff.1 h
      refine ⟨e, hno, k, hk, by omega, h1, fun i hi => ?_⟩
      have := sg_not g1 (.inr rfl) i
      rwa [List.getElem?_take_of_lt hi] at this
  · left
    have hb : Lib.indexByte l 47 = (k : Int) := by rw [← Lib.index_one]; exact e
    obtain ⟨h1, h2⟩ := Lib.indexByte_some hb
    exact ⟨k, e, by simpa using hk, h1, h2⟩
/-- the first mark, replaced. -/
theorem replace_one (fm lt : List UInt8) : Lib.replace fm [37, 115] lt 1 = if 0 ≤ Lib.index fm [37, 115] then fm.take (Lib.index fm [37, 115]).toNat ++ (lt ++ fm.drop ((Lib.index fm [37, 115]).toNat + 2)) else fm := by
  unfold Lib.replace
  have hge := Lib.index_ge fm [37, 115]
  by_cases hm : Lib.index fm [37, 115] = -1
  · have e1 : (if 0 ≤ Lib.index fm [37, 115] then fm.take (Lib.index fm [37, 115]).toNat ++ (lt ++ fm.drop ((Lib.index fm [37, 115]).toNat + 2)) else fm) = fm := if_neg (by omega)
    rw [e1]
    split
    · rfl
    · cases Lib.replaceNum fm [37, 115] 1 with
      | zero => rfl
      | succ k => unfold Lib.replaceK; rw [hm]; rfl
  · have e1 : (if 0 ≤ Lib.index fm [37, 115] then fm.take (Lib.index fm [37, 115]).toNat ++ (lt ++ fm.drop ((Lib.index fm [37, 115]).toNat + 2)) else fm) = fm.take (Lib.index fm [37, 115]).toNat ++ (lt ++ fm.drop ((Lib.index fm [37, 115]).toNat + 2)) := if_pos (by omega)
    rw [e1]
    have hc : Lib.replaceNum fm [37, 115] 1 = 1 := by
      unfold Lib.replaceNum
      rw [if_neg]
      · rfl
      · intro h
        rcases h with h | h
        · omega
        · have h0 : Lib.count fm [37, 115] = 0 := by omega
          rcases ix_cases fm [37, 115] with e | ⟨k, e, -⟩
          · exact hm e
          · have := Lib.count_hit (by simp) e
            omega
    have hf : fm = fm.take (Lib.index fm [37, 115]).toNat ++ ([37, 115] ++ fm.drop ((Lib.index fm [37, 115]).toNat + 2)) := by
      rcases Lib.index_spec fm [37, 115] with ⟨m, -⟩ | ⟨k, hk, hkl, ho, -⟩
      · exact absurd m hm
      · rw [hk, Int.toNat_natCast]
        rw [occ2] at ho
        obtain ⟨h1, h2⟩ := Bool.and_eq_true_iff.1 ho
        have h1 : fm[k]? = some 37 := by simpa using h1
        have h2 : fm[k + 1]? = some 115 := by simpa using h2
        obtain ⟨l1, e1⟩ := List.getElem?_eq_some_iff.1 h1
        obtain ⟨l2, e2⟩ := List.getElem?_eq_some_iff.1 h2
        have e3 : fm.drop k = 37 :: 115 :: fm.drop (k + 2) := by
          rw [List.drop_eq_getElem_cons l1, e1, List.drop_eq_getElem_cons l2, e2]
        calc fm = fm.take k ++ fm.drop k := (List.take_append_drop _ _).symm
          _ = _ := by rw [e3]; rfl
    split
    · rename_i hb
      have hb : [37, 115] = lt := by simpa using hb
      rw [← hb]
      exact hf
    · rw [hc]
      unfold Lib.replaceK
      rw [if_neg (by simpa using hm)]
      unfold Lib.replaceK
      rw [List.append_assoc]
      rfl
/-- what a clock is called, by cases. -/
theorem fmtN_slash {fm lt : List UInt8} {k : Nat} (h : Lib.index fm [47] = k) (sv : Bool) : fmtN fm lt sv = if sv then fm.drop (k + 1) else fm.take k := by
  unfold fmtN
  rw [h, if_pos (by omega), Int.toNat_natCast]
theorem fmtN_no {fm lt : List UInt8} (h : Lib.index fm [47] = -1) (sv : Bool) : fmtN fm lt sv = Lib.replace fm [37, 115] lt 1 := by
  unfold fmtN
  rw [h, if_neg (by omega), replace_one]
theorem fmtN_mark {fm lt : List UInt8} {k : Nat} (h : Lib.index fm [47] = -1) (h2 : Lib.index fm [37, 115] = k) (sv : Bool) : fmtN fm lt sv = fm.take k ++ (lt ++ fm.drop (k + 2)) := by
  unfold fmtN
  rw [h, if_neg (by omega), h2, if_pos (by omega), Int.toNat_natCast]
theorem fmtN_plain {fm lt : List UInt8} (h : Lib.index fm [47] = -1) (h2 : Lib.index fm [37, 115] = -1) (sv : Bool) : fmtN fm lt sv = fm := by
  unfold fmtN
  rw [h, if_neg (by omega), h2, if_neg (by omega)]
theorem fmtN_len {fm lt : List UInt8} {sv : Bool} (h : fmtL fm = true) (hl : lt.length ≤ 6) : (fmtN fm lt sv).length ≤ 18 := by
  have h1 := fmt_len h
  rcases fmt_cases h with ⟨k, e, hk, -⟩ | ⟨e, -, k, h2, hk, -⟩ | ⟨e, -, h2, -⟩
  · rw [fmtN_slash e]
    split
    · rw [List.length_drop]; omega
    · rw [List.length_take]; omega
  · rw [fmtN_mark e h2, List.length_append, List.length_append, List.length_take, List.length_drop]; omega
  · rw [fmtN_plain e h2]; omega
end Go.Proofs.YtdpbedkppomffaaGreatDoor
