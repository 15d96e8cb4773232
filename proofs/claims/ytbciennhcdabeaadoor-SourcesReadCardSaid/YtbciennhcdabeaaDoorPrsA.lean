/-
  sundialref.parted: plain; walked.
-/
import Derived.Test.YtbciennhcdabeaaDoorTreeT
namespace Go.Proofs.YtbciennhcdabeaaDoor
set_option linter.unusedVariables false
set_option linter.unusedSimpArgs false
open Go.ChangeShapes Go.WideShapes Go.ChangeAt Go.RowKit

/-- a text's pieces, cut at each c; cur is what the first piece has so far. -/
def splB (c : UInt8) : List UInt8 → List UInt8 → List (List UInt8)
  | cur, [] => [cur]
  | cur, x :: l => if x = c then cur :: splB c [] l else splB c (cur ++ [x]) l
def encS (x : List UInt8) : List Value := [.string ⟨x.toArray⟩]
def PtI (c : UInt8) (L : List UInt8) (i f : Nat) (pcs : List (List UInt8)) : Prop :=
  pcs.length ≤ i ∧ f ≤ i ∧ (i ≤ L.length → pcs ++ splB c ((L.drop f).take (i - f)) (L.drop i) = splB c [] L) ∧ (L.length < i → pcs = splB c [] L)
theorem PtI.zero (c : UInt8) (L : List UInt8) : PtI c L 0 0 [] := ⟨by simp, by omega, fun _ => by simp, fun h => by omega⟩
theorem take_snocP (L : List UInt8) (i f : Nat) (hf : f ≤ i) (hi : i < L.length) : (L.drop f).take (i + 1 - f) = (L.drop f).take (i - f) ++ [L[i]] := by
  rw [show i + 1 - f = (i - f) + 1 from by omega, List.take_succ_eq_append_getElem (by rw [List.length_drop]; omega), List.getElem_drop]
  congr 2
  congr 1
  omega
theorem PtI.skip {c : UInt8} {L : List UInt8} {i f : Nat} {pcs : List (List UInt8)} (h : PtI c L i f pcs) (hi : i < L.length) (hc : L[i] ≠ c) : PtI c L (i + 1) f pcs := by
  obtain ⟨h0, h1, h2, h3⟩ := h
  refine ⟨by omega, by omega, fun _ => ?_, fun h => by omega⟩
  have := h2 (by omega)
  rw [List.drop_eq_getElem_cons hi] at this
  rw [take_snocP L i f h1 hi, ← this]
  show _ = pcs ++ (if L[i] = c then _ else _)
  rw [if_neg hc]
theorem PtI.cut {c : UInt8} {L : List UInt8} {i f : Nat} {pcs : List (List UInt8)} (h : PtI c L i f pcs) (hi : i < L.length) (hc : L[i] = c) : PtI c L (i + 1) (i + 1) (pcs ++ [(L.drop f).take (i - f)]) := by
  obtain ⟨h0, h1, h2, h3⟩ := h
  refine ⟨by simp; omega, by omega, fun _ => ?_, fun h => by omega⟩
  have := h2 (by omega)
  rw [List.drop_eq_getElem_cons hi] at this
  rw [Nat.sub_self, List.take_zero, ← this]
  show _ = pcs ++ (if L[i] = c then _ else _)
  rw [if_pos hc]
  simp
theorem PtI.last {c : UInt8} {L : List UInt8} {f : Nat} {pcs : List (List UInt8)} (h : PtI c L L.length f pcs) : PtI c L (L.length + 1) (L.length + 1) (pcs ++ [(L.drop f).take (L.length - f)]) := by
  obtain ⟨h0, h1, h2, h3⟩ := h
  refine ⟨by simp; omega, by omega, fun h => by omega, fun _ => ?_⟩
  have := h2 (Nat.le_refl _)
  rw [List.drop_length] at this
  exact this
theorem PtI.done {c : UInt8} {L : List UInt8} {f : Nat} {pcs : List (List UInt8)} (h : PtI c L (L.length + 1) f pcs) : pcs = splB c [] L := h.2.2.2 (by omega)
theorem str_info : (Tryd.prog.info? 9).map (fun i => (i.zero, i.size, i.bytes)) = some (some (.string ⟨#[]⟩), 1, 16) := by kernel_rfl
/-- a row of texts of the call's own. -/
def StW (w : World) (B : Nat) (v : Value) (pcs : List (List UInt8)) : Prop := w.ownsRow B 9 1 v pcs.length (pcs.flatMap encS)
theorem StW.snoc {w : World} {B : Nat} {v : Value} {pcs : List (List UInt8)} {x : List UInt8} (h : w.ownsRow B 9 1 v (pcs.length + 1) (pcs.flatMap encS ++ encS x)) : StW w B v (pcs ++ [x]) := own_snocG h
theorem ext_bytes (s : ByteArray) (a b : Nat) : s.extract a b = ⟨((s.data.toList.drop a).take (b - a)).toArray⟩ := by
  obtain ⟨⟨l⟩⟩ := s
  exact ByteArray.extract_mk l a b
end Go.Proofs.YtbciennhcdabeaaDoor
