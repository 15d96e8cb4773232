/-
  Formats of eras, plain: where a slash, or a mark, first stands.
-/
import Derived.Test.YtdpbedkppomffaaDoorSrcC
import Derived.Lib.IndexMore
namespace Go.Proofs.YtdpbedkppomffaaDoor
set_option linter.unusedVariables false
set_option linter.unusedSimpArgs false
open Go.ChangeShapes Go.WideShapes Go.ChangeAt Go.RowKit

def sgL (l : List UInt8) : Bool := l.all fun b => sgB (b.toNat : Int)
def plL (l : List UInt8) : Bool := !l.isEmpty && sgL l
theorem sgS_eq (s : ByteArray) : sgS s = sgL s.data.toList := by
  unfold sgS sgL bl; rw [List.all_map]; rfl
theorem plS_eq (s : ByteArray) : plS s = plL s.data.toList := by
  unfold plS plL
  rw [sgS_eq]
  have h : s.size = s.data.toList.length := by simp
  rw [h]
  cases s.data.toList with
  | nil => rfl
  | cons a l => simp
def slashAt (l : List UInt8) : Int := Lib.index l [47]
def markAt (l : List UInt8) : Int := Lib.index l [37, 115]
def fmtL (l : List UInt8) : Bool :=
  decide (1 ≤ (l.length : Int) ∧ (l.length : Int) ≤ 12) &&
  (bif decide (0 ≤ slashAt l) then plL (l.take (slashAt l).toNat) && plL (l.drop ((slashAt l).toNat + 1))
  else bif decide (0 ≤ markAt l) then sgL (l.take (markAt l).toNat) && sgL (l.drop ((markAt l).toNat + 2))
  else sgL l)
theorem occ1 (l : List UInt8) (c : UInt8) (j : Nat) : Lib.occAt l [c] j = (l[j]? == some c) := by
  unfold Lib.occAt
  rw [← List.head?_drop]
  cases l.drop j with
  | nil => rfl
  | cons b t => simp [List.isPrefixOf, Bool.beq_eq_decide_eq, eq_comm]
theorem occ2 (l : List UInt8) (a c : UInt8) (j : Nat) : Lib.occAt l [a, c] j = (l[j]? == some a && l[j + 1]? == some c) := by
  unfold Lib.occAt
  rw [← List.head?_drop, show l[j + 1]? = (l.drop j)[1]? by rw [List.getElem?_drop]]
  cases l.drop j with
  | nil => rfl
  | cons b t => cases t <;> simp [List.isPrefixOf, Bool.beq_eq_decide_eq, eq_comm]
theorem ix1_at {l : List UInt8} {c : UInt8} {k : Nat} (h : l[k]? = some c) (hn : ∀ i, i < k → l[i]? ≠ some c) : Lib.index l [c] = k :=
  Lib.index_first (by have := (List.getElem?_eq_some_iff.1 h).1; omega) (by rw [occ1, h]; simp) (fun j hj => by rw [occ1]; simpa using hn j hj)
theorem ix1_none {l : List UInt8} {c : UInt8} (hn : ∀ i : Nat, l[i]? ≠ some c) : Lib.index l [c] = -1 :=
  Lib.index_none (fun j hj => by rw [occ1]; simpa using hn j)
theorem ix2_at {l : List UInt8} {a c : UInt8} {k : Nat} (h : l[k]? = some a) (h' : l[k + 1]? = some c) (hn : ∀ i, i < k → ¬ (l[i]? = some a ∧ l[i + 1]? = some c)) : Lib.index l [a, c] = k :=
  Lib.index_first (by have := (List.getElem?_eq_some_iff.1 h).1; omega) (by rw [occ2, h, h']; simp) (fun j hj => by rw [occ2]; simpa using hn j hj)
theorem ix2_none {l : List UInt8} {a c : UInt8} (hn : ∀ i : Nat, ¬ (l[i]? = some a ∧ l[i + 1]? = some c)) : Lib.index l [a, c] = -1 :=
  Lib.index_none (fun j hj => by rw [occ2]; simpa using hn j)
theorem fmt_size {l : List UInt8} (h : ¬ (1 ≤ (l.length : Int) ∧ (l.length : Int) ≤ 12)) : fmtL l = false := by
  unfold fmtL; rw [decide_eq_false h]; rfl
theorem fmt_slash {l : List UInt8} {k : Nat} (h : 1 ≤ (l.length : Int) ∧ (l.length : Int) ≤ 12) (hi : Lib.index l [47] = k) : fmtL l = (plL (l.take k) && plL (l.drop (k + 1))) := by
  unfold fmtL slashAt
  rw [decide_eq_true h, hi, decide_eq_true (by omega)]
  simp
theorem pl_take {l : List UInt8} {k : Nat} (hk : k < l.length) : plL (l.take k) = (decide (0 < k) && sgL (l.take k)) := by
  unfold plL
  cases k with
  | zero => simp
  | succ k =>
    cases l with
    | nil => simp at hk
    | cons a l => simp
theorem pl_drop {l : List UInt8} {k : Nat} : plL (l.drop k) = (decide (k < l.length) && sgL (l.drop k)) := by
  unfold plL
  congr 1
  rw [Bool.eq_iff_iff]
  simp
theorem fmt_mark {l : List UInt8} {k : Nat} (h : 1 ≤ (l.length : Int) ∧ (l.length : Int) ≤ 12) (hi : Lib.index l [47] = -1) (hm : Lib.index l [37, 115] = k) : fmtL l = (sgL (l.take k) && sgL (l.drop (k + 2))) := by
  unfold fmtL slashAt markAt
  rw [decide_eq_true h, hi, hm, decide_eq_true (show (0 : Int) ≤ k by omega)]
  simp
theorem fmt_plain {l : List UInt8} (h : 1 ≤ (l.length : Int) ∧ (l.length : Int) ≤ 12) (hi : Lib.index l [47] = -1) (hm : Lib.index l [37, 115] = -1) : fmtL l = sgL l := by
  unfold fmtL slashAt markAt
  rw [decide_eq_true h, hi, hm]
  simp
theorem cut_at {l sep : List UInt8} {k : Nat} (h : Lib.index l sep = k) : Lib.cut l sep = (l.take k, l.drop (k + sep.length), true) := by
  unfold Lib.cut
  rw [h, if_pos (by omega)]; simp
theorem cut_none {l sep : List UInt8} (h : Lib.index l sep = -1) : Lib.cut l sep = (l, [], false) := by
  unfold Lib.cut
  rw [h, if_neg (by omega)]
theorem ix_cases (l sep : List UInt8) : Lib.index l sep = -1 ∨ ∃ k : Nat, Lib.index l sep = k ∧ k + sep.length ≤ l.length := by
  have h1 := Lib.index_ge l sep
  by_cases h : Lib.index l sep = -1
  · exact .inl h
  · have h2 := Lib.index_room l sep (by omega)
    exact .inr ⟨(Lib.index l sep).toNat, by omega, by omega⟩
end Go.Proofs.YtdpbedkppomffaaDoor
