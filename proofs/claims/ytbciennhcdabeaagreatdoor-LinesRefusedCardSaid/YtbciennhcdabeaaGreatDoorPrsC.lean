/-
  A code read back, plain: cuts, pieces, operators, numbers.
-/
import Derived.Lib.IndexMore
import Derived.Lib.AtoiAll
import Derived.Lib.ItoaMem
import Derived.Lib.SlicesS
import Derived.Test.YtbciennhcdabeaaGreatDoorPrsA
import Derived.Test.YtbciennhcdabeaaGreatDoorPrsB
import Derived.Test.YtbciennhcdabeaaGreatDoorTxtA
namespace Go.Proofs.YtbciennhcdabeaaGreatDoor
set_option linter.unusedVariables false
set_option linter.unusedSimpArgs false
open Go.ChangeShapes Go.WideShapes Go.ChangeAt Go.RowKit

/-- a text, cut at the first c. -/
def cutB (c : UInt8) : List UInt8 → List UInt8 × List UInt8 × Bool
  | [] => ([], [], false)
  | x :: l => if x = c then ([], l, true) else (x :: (cutB c l).1, (cutB c l).2.1, (cutB c l).2.2)
theorem cut_one (c : UInt8) : ∀ l : List UInt8, Lib.cut l [c] = cutB c l
  | [] => rfl
  | x :: l => by
    have ih := cut_one c l
    have hge := Lib.index_ge l [c]
    unfold Lib.cut at ih ⊢
    have e : Lib.index (x :: l) [c] = if [c].isPrefixOf (x :: l) then 0 else if Lib.index l [c] == -1 then -1 else Lib.index l [c] + 1 := rfl
    have e2 : [c].isPrefixOf (x :: l) = (c == x) := by simp [List.isPrefixOf]
    rw [e, e2]
    by_cases h : x = c
    · subst h
      simp [cutB]
    · have h' : (c == x) = false := by rw [beq_eq_false_iff_ne]; exact fun e => h e.symm
      rw [h']
      show _ = if x = c then _ else _
      rw [if_neg h, ← ih]
      by_cases h2 : Lib.index l [c] = -1
      · simp [h2]
      · have h3 : (Lib.index l [c] == -1) = false := by rw [beq_eq_false_iff_ne]; exact h2
        have h4 : 0 ≤ Lib.index l [c] := by omega
        have h5 : 0 ≤ Lib.index l [c] + 1 := by omega
        have h6 : (Lib.index l [c] + 1).toNat = (Lib.index l [c]).toNat + 1 := by omega
        simp only [h3, Bool.false_eq_true, if_false, if_pos h4, if_pos h5, h6, List.take_succ_cons, List.length_singleton, List.drop_succ_cons]
theorem spl_cut (c : UInt8) : ∀ (l cur : List UInt8), splB c cur l = if (cutB c l).2.2 then (cur ++ (cutB c l).1) :: splB c [] (cutB c l).2.1 else [cur ++ (cutB c l).1]
  | [], cur => by simp [splB, cutB]
  | x :: l, cur => by
    show (if x = c then _ else _) = _
    have e : cutB c (x :: l) = if x = c then ([], l, true) else (x :: (cutB c l).1, (cutB c l).2.1, (cutB c l).2.2) := rfl
    rw [e]
    by_cases h : x = c
    · simp [h]
    · rw [if_neg h, if_neg h, spl_cut c l (cur ++ [x])]
      simp
theorem spl_ne (c : UInt8) (cur l : List UInt8) : splB c cur l ≠ [] := by
  rw [spl_cut]
  split <;> simp
theorem cutB_len (c : UInt8) : ∀ l : List UInt8, (cutB c l).1.length + (cutB c l).2.1.length + (if (cutB c l).2.2 then 1 else 0) = l.length
  | [] => rfl
  | x :: l => by
    have ih := cutB_len c l
    have e : cutB c (x :: l) = if x = c then ([], l, true) else (x :: (cutB c l).1, (cutB c l).2.1, (cutB c l).2.2) := rfl
    rw [e]
    by_cases h : x = c
    · simp [h]
    · rw [if_neg h]
      simp only [List.length_cons]
      omega
theorem cutB_none (c : UInt8) : ∀ l : List UInt8, (cutB c l).2.2 = false → cutB c l = (l, [], false)
  | [], _ => rfl
  | x :: l, h => by
    have e : cutB c (x :: l) = if x = c then ([], l, true) else (x :: (cutB c l).1, (cutB c l).2.1, (cutB c l).2.2) := rfl
    rw [e] at h ⊢
    by_cases h' : x = c
    · rw [if_pos h'] at h; cases h
    · rw [if_neg h'] at h ⊢
      rw [cutB_none c l h]
theorem cutB_mem (c : UInt8) : ∀ l : List UInt8, (cutB c l).2.2 = true ↔ c ∈ l
  | [] => by simp [cutB]
  | x :: l => by
    have e : cutB c (x :: l) = if x = c then ([], l, true) else (x :: (cutB c l).1, (cutB c l).2.1, (cutB c l).2.2) := rfl
    rw [e]
    by_cases h' : x = c
    · simp [h']
    · rw [if_neg h', cutB_mem c l]
      simp [Ne.symm h']
/-- a word's operator; 0: none. -/
def opOf (w : List UInt8) : Int :=
  if w = [97, 114, 103] then 1 else if w = [112, 117, 115, 104] then 2 else if w = [108, 101, 115, 115] then 3 else if w = [115, 107, 105, 112] then 4 else if w = [103, 111] then 5 else if w = [116, 101, 108, 108] then 6 else 0
theorem opOf_range (w : List UInt8) : 0 ≤ opOf w ∧ opOf w ≤ 6 := by unfold opOf; repeat' split <;> omega
def zsN : List ByteArray := (nmS.drop 1).map fun z => ⟨z.toArray⟩
theorem ba_eq (a b : List UInt8) : (ByteArray.mk a.toArray = ByteArray.mk b.toArray) ↔ a = b := by
  constructor
  · intro h
    have := congrArg (fun x => x.data.toList) h
    simpa using this
  · rintro rfl; rfl
theorem opOf_idx (w : List UInt8) : Lib.idxOfS (zsN.take 6) ⟨w.toArray⟩ + 1 = opOf w := by
  have e : zsN.take 6 = [⟨[97, 114, 103].toArray⟩, ⟨[112, 117, 115, 104].toArray⟩, ⟨[108, 101, 115, 115].toArray⟩, ⟨[115, 107, 105, 112].toArray⟩, ⟨[103, 111].toArray⟩, ⟨[116, 101, 108, 108].toArray⟩] := rfl
  rw [e]
  unfold Lib.idxOfS opOf
  simp only [Lib.idxFromS, ba_eq, eq_comm (b := w)]
  repeat' split
  all_goals first | rfl | simp_all
end Go.Proofs.YtbciennhcdabeaaGreatDoor
