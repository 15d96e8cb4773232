/-
  What a reader of lines holds while it grows; lines, plain.
-/
import Derived.Test.YtcmlcmokjgkciaaGreatDoorJRdV
import Derived.Test.YtcmlcmokjgkciaaGreatDoorJRdI
namespace Go.Proofs.YtcmlcmokjgkciaaGreatDoor
set_option linter.unusedVariables false
set_option linter.unusedSimpArgs false
open Go.ChangeShapes Go.WideShapes Go.ChangeAt Go.RowKit Civ

theorem splB_size (c : UInt8) : ∀ (l cur : List UInt8), ∀ p ∈ splB c cur l, p.length ≤ cur.length + l.length
  | [], cur, p, h => by
    have h : p ∈ [cur] := h
    rw [List.mem_singleton.1 h]; simp
  | x :: l, cur, p, h => by
    have h : p ∈ (if x = c then cur :: splB c [] l else splB c (cur ++ [x]) l) := h
    split at h
    · rcases List.mem_cons.1 h with rfl | h
      · simp
      · have := splB_size c l [] p h
        simp at this ⊢; omega
    · have := splB_size c l (cur ++ [x]) p h
      simp at this ⊢; omega
theorem linE_lng (st : RdS) (l : List UInt8) : linE st l = if lngE (wdsS l) ≠ 0 then lngE (wdsS l) else lnE st (wdsS l) := by
  unfold linE lngE
  by_cases h : longW (wdsS l) = true
  · rw [if_pos h, if_pos h, if_pos (by decide)]
  · rw [if_neg h, if_neg h, if_neg (by decide)]
/-- a line more. -/
theorem lins_bad {LS : List (List UInt8)} {st : RdS} {k : Nat} (h : linsF rd0 0 LS = linsF st k (LS.drop k)) (hk : k < LS.length) (he : linE st LS[k] ≠ 0) : linsF rd0 0 LS = ((st, k + 1), linE st LS[k]) := by
  rw [h, List.drop_eq_getElem_cons hk]
  exact if_pos he
theorem lins_good {LS : List (List UInt8)} {st : RdS} {k : Nat} (h : linsF rd0 0 LS = linsF st k (LS.drop k)) (hk : k < LS.length) (he : linE st LS[k] = 0) : linsF rd0 0 LS = linsF (linV st LS[k]) (k + 1) (LS.drop (k + 1)) := by
  rw [h, List.drop_eq_getElem_cons hk]
  exact if_neg (by simp [he])
theorem lins_end {LS : List (List UInt8)} {st : RdS} (h : linsF rd0 0 LS = linsF st LS.length (LS.drop LS.length)) : linsF rd0 0 LS = ((st, LS.length), 0) := by
  rw [h, List.drop_length]
  rfl
theorem src_big {s : ByteArray} (h : 8000 < s.size ∨ 200 < (linesS s).length) : srcV s = src0 ∧ srcL s = 0 ∧ srcX s = 1 := by
  refine ⟨?_, if_pos h, if_pos h⟩
  unfold srcV
  rw [if_pos]
  rcases h with h | h
  · exact .inl h
  · exact .inr (.inl h)
theorem src_bad {s : ByteArray} {st : RdS} {k : Nat} {E : Int} (h1 : ¬ (8000 < s.size ∨ 200 < (linesS s).length)) (h : linsF rd0 0 (linesS s) = ((st, k), E)) (hE : E ≠ 0) : srcV s = src0 ∧ srcL s = (k : Int) ∧ srcX s = E := by
  refine ⟨?_, ?_, ?_⟩
  · unfold srcV; rw [h, if_pos (.inr (.inr (.inl hE)))]
  · unfold srcL; rw [if_neg h1, h, if_pos hE]
  · unfold srcX; rw [if_neg h1, h, if_pos hE]
theorem src_open {s : ByteArray} {st : RdS} {k : Nat} (h1 : ¬ (8000 < s.size ∨ 200 < (linesS s).length)) (h : linsF rd0 0 (linesS s) = ((st, k), 0)) (ho : st.op = true) : srcV s = src0 ∧ srcL s = ((linesS s).length : Int) ∧ srcX s = 5 := by
  refine ⟨?_, ?_, ?_⟩
  · unfold srcV; rw [h, if_pos (.inr (.inr (.inr ho)))]
  · unfold srcL; rw [if_neg h1, h, if_neg (by simp), if_pos ho]
  · unfold srcX; rw [if_neg h1, h, if_neg (by simp), if_pos ho]
theorem src_shut {s : ByteArray} {st : RdS} {k : Nat} (h1 : ¬ (8000 < s.size ∨ 200 < (linesS s).length)) (h : linsF rd0 0 (linesS s) = ((st, k), 0)) (ho : st.op = false) : srcV s = st.s ∧ srcL s = 0 ∧ srcX s = 0 := by
  have h2 : ¬ (8000 < s.size ∨ 200 < (linesS s).length ∨ ((0 : Int) ≠ 0) ∨ st.op = true) := by
    rintro (h | h | h | h)
    · exact h1 (.inl h)
    · exact h1 (.inr h)
    · exact h rfl
    · rw [ho] at h; cases h
  refine ⟨?_, ?_, ?_⟩
  · unfold srcV; rw [h, if_neg h2]
  · unfold srcL; rw [if_neg h1, h, if_neg (by simp), if_neg (by simp [ho])]
  · unfold srcX; rw [if_neg h1, h, if_neg (by simp), if_neg (by simp [ho])]
/-- has the last zone an era more, there is one. -/
theorem lnV_op {st : RdS} {w : List ByteArray} (h : st.op = true → st.s.zones ≠ []) : (lnV st w).op = true → (lnV st w).s.zones ≠ [] := by
  unfold lnV
  split
  · exact h
  · split
    · rename_i h1 h2
      intro _
      have hz := h h2
      obtain ⟨pre, z, e⟩ : ∃ pre z, st.s.zones = pre ++ [z] := ⟨_, _, (List.dropLast_concat_getLast hz).symm⟩
      show addE st.s.zones _ ≠ []
      rw [e, addE_last]
      simp
    · split
      · intro h; cases h
      · split
        · intro _; show st.s.zones ++ [_] ≠ []; simp
        · intro h; cases h
/-- how many there are. -/
def cntS (s : Src) : Nat := s.rules.length + s.zones.length + s.links.length
theorem addE_len (zs : List Zon) (x : Ero) : (addE zs x).length = zs.length := by
  unfold addE
  split
  · rename_i z h
    have hz : zs ≠ [] := by rintro rfl; simp at h
    rw [List.length_append, List.length_dropLast]
    have := List.length_pos_iff.2 hz
    simp
    omega
  · rfl
theorem lnV_cnt (st : RdS) (w : List ByteArray) : cntS (lnV st w).s ≤ cntS st.s + 1 := by
  unfold lnV cntS
  split
  · omega
  · split
    · simp only [addE_len]; omega
    · split
      · simp; omega
      · split
        · simp; omega
        · simp; omega
/-- the eras of a zone are at most so many. -/
def ersB (s : Src) (n : Nat) : Prop := ∀ z ∈ s.zones, z.eras.length ≤ n
section
variable {w W6 wr w' : World} {O : Nat} {vr vz vl v' : Value} {s : Src} {ob : Obj}
theorem SrR.boxed {D b i : Nat} {cs : Array Value} {rs : List Rul} {zs : List (Zon × Value)} {ls : List Lnk} (h : SrR wr D vr vz vl rs zs ls) (hb : BxO wr b cs 29) (u : Value) : SrR (wr.setCell ⟨b, i, none⟩ u) D vr vz vl rs zs ls :=
  h.box hb (by decide) (by decide) (by decide) (by decide) u
theorem own_keepD {D n sz : Nat} {e : TypeId} {v : Value} {xs : List Value} (hown : wr.ownsRow D e sz v n xs) (hz : D ≤ wr.heap.size) (hg : (wr.alloc ob).grownBy w' v.ownBlock) : Below D wr w' :=
  append_keep hown ((Below.refl D wr).alloc hz _) hz hg
end
end Go.Proofs.YtcmlcmokjgkciaaGreatDoor
