/-
  What a reader of lines holds while it grows; lines, plain.
-/
import Derived.Test.YtbciennhcdabeaaGreatDoorRdV
import Derived.Test.YtbciennhcdabeaaGreatDoorRdI
namespace Go.Proofs.YtbciennhcdabeaaGreatDoor
set_option linter.unusedVariables false
set_option linter.unusedSimpArgs false
open Go.ChangeShapes Go.WideShapes Go.ChangeAt Go.RowKit Civ

theorem splB_size (c : UInt8) : ∀ (l cur : List UInt8), ∀ p ∈ splB c cur l, p.length ≤ cur.length + l.length
  | [], cur, p, h => by
    have h : p ∈ [cur] := h
    rw [List.mem_singleton.1 h]; simp
  | x :: l, cur, p, h => by
    have h : p ∈ (if x = c then cur :: splB c [] l else splB c (cur ++ [x]) l) := h
    split at h
    · rcases List.mem_cons.1 h with rfl | h
      · simp
      · have := splB_size c l [] p h
        simp at this ⊢; omega
    · have := splB_size c l (cur ++ [x]) p h
      simp at this ⊢; omega
theorem linE_lng (st : RdS) (l : List UInt8) : linE st l = if lngE (wdsS l) ≠ 0 then lngE (wdsS l) else lnE st (wdsS l) := by
  unfold linE lngE
  by_cases h : longW (wdsS l) = true
  · rw [if_pos h, if_pos h, if_pos (by decide)]
  · rw [if_neg h, if_neg h, if_neg (by decide)]
/-- a line more. -/
theorem lins_bad {LS : List (List UInt8)} {st : RdS} {k : Nat} (h : linsF rd0 0 LS = linsF st k (LS.drop k)) (hk : k < LS.length) (he : linE st LS[k] ≠ 0) : linsF rd0 0 LS = ((st, k + 1), linE st LS[k]) := by
  rw [h, List.drop_eq_getElem_cons hk]
  exact if_pos he
theorem lins_good {LS : List (List UInt8)} {st : RdS} {k : Nat} (h : linsF rd0 0 LS = linsF st k (LS.drop k)) (hk : k < LS.length) (he : linE st LS[k] = 0) : linsF rd0 0 LS = linsF (linV st LS[k]) (k + 1) (LS.drop (k + 1)) := by
  rw [h, List.drop_eq_getElem_cons hk]
  exact if_neg (by simp [he])
theorem lins_end {LS : List (List UInt8)} {st : RdS} (h : linsF rd0 0 LS = linsF st LS.length (LS.drop LS.length)) : linsF rd0 0 LS = ((st, LS.length), 0) := by
  rw [h, List.drop_length]
  rfl
theorem src_big {s : ByteArray} (h : 8000 < s.size ∨ 200 < (linesS s).length) : srcV s = src0 ∧ srcL s = 0 ∧ srcX s = 1 := by
  refine ⟨?_, if_pos h, if_pos h⟩
  unfold srcV
  rw [if_pos]
  rcases h with h | h
  · exact .inl h
  · exact .inr (.inl h)
theorem src_bad {s : ByteArray} {st : RdS} {k : Nat} {E : Int} (h1 : ¬ (8000 < s.size ∨ 200 < (linesS s).length)) (h : linsF rd0 0 (linesS s) = ((st, k), E)) (hE : E ≠ 0) : srcV s = src0 ∧ srcL s = (k : Int) ∧ srcX s = E := by
  refine ⟨?_, ?_, ?_⟩
  · unfold srcV; rw [h, if_pos (.inr (.inr (.inl hE)))]
  · unfold srcL; rw [if_neg h1, h, if_pos hE]
  · unfold srcX; rw [if_neg h1, h, if_pos hE]
theorem src_open {s : ByteArray} {st : RdS} {k : Nat} (h1 : ¬ (8000 < s.size ∨ 200 < (linesS s).length)) (h : linsF rd0 0 (linesS s) = ((st, k), 0)) (ho : st.op = true) : srcV s = src0 ∧ srcL s = ((linesS s).length : Int) ∧ srcX s = 5 := by
  refine ⟨?_, ?_, ?_⟩
  · unfold srcV; rw [h, if_pos (.inr (.inr (.inr ho)))]
  · unfold srcL; rw [if_neg h1, h, if_neg (by simp), if_pos ho]
  · unfold srcX; rw [if_neg h1, h, if_neg (by simp), if_pos ho]
theorem src_shut {s : ByteArray} {st : RdS} {k : Nat} (h1 : ¬ (8000 < s.size ∨ 200 < (linesS s).length)) (h : linsF rd0 0 (linesS s) = ((st, k), 0)) (ho : st.op = false) : srcV s = st.s ∧ srcL s = 0 ∧ srcX s = 0 := by
  have h2 : ¬ (8000 < s.size ∨ 200 < (linesS s).length ∨ ((0 : Int) ≠ 0) ∨ st.op = true) := by
    rintro (h | h | h | h)
    · exact h1 (.inl h)
    · exact h1 (.inr h)
    · exact h rfl
    · rw [ho] at h; cases h
  refine ⟨?_, ?_, ?_⟩
  · unfold srcV; rw [h, if_neg h2]
  · unfold srcL; rw [if_neg h1, h, if_neg (by simp), if_neg (by simp [ho])]
  · unfold srcX; rw [if_neg h1, h, if_neg (by simp), if_neg (by simp [ho])]
/-- has the last zone an era more, there is one. -/
theorem lnV_op {st : RdS} {w : List ByteArray} (h : st.op = true → st.s.zones ≠ []) : (lnV st w).op = true → (lnV st w).s.zones ≠ [] := by
  unfold lnV
  split
  · exact h
  · split
    · rename_i h1 h2
      intro _
      have hz := h h2
      obtain ⟨pre, z, e⟩ : ∃ pre z, st.s.zones = pre ++ [z] := ⟨_, _, (List.dropLast_concat_getLast hz).symm⟩
      show addE st.s.zones _ ≠ []
      rw [e, addE_last]
      simp
    · split
      · intro h; cases h
      · split
        · intro _; show st.s.zones ++ [_] ≠ []; simp
        · intro h; cases h
/-- how many there are. -/
def cntS (s : Src) : Nat := s.rules.length + s.zones.length + s.links.length
theorem addE_len (zs : List Zon) (x : Ero) : (addE zs x).length = zs.length := by
  unfold addE
  split
  · rename_i z h
    have hz : zs ≠ [] := by rintro rfl; simp at h
    rw [List.length_append, List.length_dropLast]
    have := List.length_pos_iff.2 hz
    simp
    omega
  · rfl
theorem lnV_cnt (st : RdS) (w : List ByteArray) : cntS (lnV st w).s ≤ cntS st.s + 1 := by
  unfold lnV cntS
  split
  · omega
  · split
    · simp only [addE_len]; omega
    · split
      · simp; omega
      · split
        · simp; omega
        · simp; omega
/-- the eras of a zone are at most so many. -/
def ersB (s : Src) (n : Nat) : Prop := ∀ z ∈ s.zones, z.eras.length ≤ n
/-- the document's reader: a result's box, a source's box, its rows, beside what was there. -/
structure SoM (w W6 wr : World) (O : Nat) (vr vz vl : Value) (s : Src) : Prop where
  r : BxO wr w.heap.size #[.slice none 0 0, .slice none 0 0, .slice none 0 0] 26
  o : BxO wr O #[vr, vz, vl] 26
  s : SrS wr (O + 1) vr vz vl s
  b : Below O W6 wr
  c : Below w.heap.size w W6
  n : w.heap.size < O
  z : O < wr.heap.size
  e : O = W6.heap.size
section
variable {w W6 wr w' : World} {O : Nat} {vr vz vl v' : Value} {s : Src} {ob : Obj}
theorem SoM.next (h : SoM w W6 wr O vr vz vl s) (hb : Below wr.heap.size wr w') : SoM w W6 w' O vr vz vl s :=
  ⟨(hb.block _ h.r.lt).trans h.r, (hb.block _ h.o.lt).trans h.o, h.s.next hb, h.b.trans (hb.mono (Nat.le_of_lt h.z)), h.c, h.n, Nat.lt_of_lt_of_le h.z hb.size, h.e⟩
theorem SoM.drew (h : SoM w W6 wr O vr vz vl s) : SoM w W6 wr.drew O vr vz vl s := h.next ((Below.refl _ _).drew)
theorem SoM.all (h : SoM w W6 wr O vr vz vl s) : Below w.heap.size w wr := h.c.trans (h.b.mono (Nat.le_of_lt h.n))
theorem SoM.start (hr : BxO W6 w.heap.size #[.slice none 0 0, .slice none 0 0, .slice none 0 0] 26) (hb : Below w.heap.size w W6) : SoM w W6 (W6.alloc (.cells #[.slice none 0 0, .slice none 0 0, .slice none 0 0] 26)) W6.heap.size (.slice none 0 0) (.slice none 0 0) (.slice none 0 0) src0 :=
  ⟨hr.alloc _, BxO.new _ _ _, SrS.mt _ _, (Below.refl _ _).alloc (Nat.le_refl _) _, hb, hr.lt, by rw [size_alloc]; omega, rfl⟩
theorem SrR.boxed {D b i : Nat} {cs : Array Value} {rs : List Rul} {zs : List (Zon × Value)} {ls : List Lnk} (h : SrR wr D vr vz vl rs zs ls) (hb : BxO wr b cs 26) (u : Value) : SrR (wr.setCell ⟨b, i, none⟩ u) D vr vz vl rs zs ls :=
  h.box hb (by decide) (by decide) (by decide) (by decide) u
theorem own_keepD {D n sz : Nat} {e : TypeId} {v : Value} {xs : List Value} (hown : wr.ownsRow D e sz v n xs) (hz : D ≤ wr.heap.size) (hg : (wr.alloc ob).grownBy w' v.ownBlock) : Below D wr w' :=
  append_keep hown ((Below.refl D wr).alloc hz _) hz hg
theorem SoM.putR {zs : List (Zon × Value)} {y : Rul} (h : SoM w W6 wr O vr vz vl s) (ez : zs.map Prod.fst = s.zones) (hs : SrR wr (O + 1) vr vz vl s.rules zs s.links)
    (ho : w'.ownsRow (O + 1) 53 11 v' (s.rules.length + 1) (s.rules.flatMap RulV ++ RulV y)) (hg : (wr.alloc ob).grownBy w' vr.ownBlock) :
    SoM w W6 (w'.setCell ⟨O, 0, none⟩ v') O v' vz vl ⟨s.rules ++ [y], s.zones, s.links⟩ := by
  have hk := own_keepD hs.r h.z hg
  have hO := h.o.sideV hs.r (by decide) hg
  refine ⟨BxO.other (h.r.sideV hs.r (by decide) hg) (Nat.ne_of_lt h.n) _ _, ?_, ⟨zs, ez, (hs.rule ho hg).boxed hO _⟩, (h.b.trans (hk.mono (Nat.le_succ _))).setCell (p := ⟨O, 0, none⟩) (Nat.le_refl _) _, h.c, h.n, ?_, h.e⟩
  · simp [BxO, World.setCell, Array.getElem?_modify, show w'.heap[O]? = _ from hO]
  · rw [World.size_setCell]; exact Nat.lt_of_lt_of_le h.z hk.size
theorem SoM.putL {zs : List (Zon × Value)} {y : Lnk} (h : SoM w W6 wr O vr vz vl s) (ez : zs.map Prod.fst = s.zones) (hs : SrR wr (O + 1) vr vz vl s.rules zs s.links)
    (ho : w'.ownsRow (O + 1) 57 2 v' (s.links.length + 1) (s.links.flatMap encK ++ encK y)) (hg : (wr.alloc ob).grownBy w' vl.ownBlock) :
    SoM w W6 (w'.setCell ⟨O, 2, none⟩ v') O vr vz v' ⟨s.rules, s.zones, s.links ++ [y]⟩ := by
  have hk := own_keepD hs.l h.z hg
  have hO := h.o.sideV hs.l (by decide) hg
  refine ⟨BxO.other (h.r.sideV hs.l (by decide) hg) (Nat.ne_of_lt h.n) _ _, ?_, ⟨zs, ez, (hs.link ho hg).boxed hO _⟩, (h.b.trans (hk.mono (Nat.le_succ _))).setCell (p := ⟨O, 2, none⟩) (Nat.le_refl _) _, h.c, h.n, ?_, h.e⟩
  · simp [BxO, World.setCell, Array.getElem?_modify, show w'.heap[O]? = _ from hO]
  · rw [World.size_setCell]; exact Nat.lt_of_lt_of_le h.z hk.size
/-- a zone more, without eras. -/
theorem SoM.putZ {zs : List (Zon × Value)} {nm : ByteArray} (h : SoM w W6 wr O vr vz vl s) (ez : zs.map Prod.fst = s.zones) (hs : SrR wr (O + 1) vr vz vl s.rules zs s.links)
    (ho : w'.ownsRow (O + 1) 64 2 v' (zs.length + 1) (zs.flatMap encZ ++ encZ (⟨nm, []⟩, .slice none 0 0))) (hg : (wr.alloc ob).grownBy w' vz.ownBlock) :
    SoM w W6 (w'.setCell ⟨O, 1, none⟩ v') O vr v' vl ⟨s.rules, s.zones ++ [⟨nm, []⟩], s.links⟩ ∧ SrR (w'.setCell ⟨O, 1, none⟩ v') (O + 1) vr v' vl s.rules (zs ++ [(⟨nm, []⟩, .slice none 0 0)]) s.links := by
  have hk := own_keepD hs.z h.z hg
  have hO := h.o.sideV hs.z (by decide) hg
  have hS := (hs.zone (y := (⟨nm, []⟩, .slice none 0 0)) (World.ownsRow_nil _ _ _ _) (fun _ _ _ _ => by simp [Value.ownBlock]) ho hg).boxed (i := 1) hO v'
  refine ⟨⟨BxO.other (h.r.sideV hs.z (by decide) hg) (Nat.ne_of_lt h.n) _ _, ?_, ⟨_, by rw [List.map_append, ez]; rfl, hS⟩, (h.b.trans (hk.mono (Nat.le_succ _))).setCell (p := ⟨O, 1, none⟩) (Nat.le_refl _) _, h.c, h.n, ?_, h.e⟩, hS⟩
  · simp [BxO, World.setCell, Array.getElem?_modify, show w'.heap[O]? = _ from hO]
  · rw [World.size_setCell]; exact Nat.lt_of_lt_of_le h.z hk.size
/-- the last zone has an era more. -/
theorem SoM.putE {pre : List (Zon × Value)} {nm : ByteArray} {es : List Ero} {ve : Value} {y : Ero} {G cap : Nat} (h : SoM w W6 wr O vr (.slice (some ⟨G, 0, none⟩) (pre.length + 1) cap) vl s) (ez : (pre ++ [((⟨nm, es⟩ : Zon), ve)]).map Prod.fst = s.zones)
    (hs : SrR wr (O + 1) vr (.slice (some ⟨G, 0, none⟩) (pre.length + 1) cap) vl s.rules (pre ++ [((⟨nm, es⟩ : Zon), ve)]) s.links)
    (ho : w'.ownsRow (O + 1) 59 12 v' (es.length + 1) (es.flatMap EroV ++ EroV y)) (hg : (wr.alloc ob).grownBy w' ve.ownBlock) (hf : v'.ownBlock = ve.ownBlock ∨ v'.ownBlock = some (wr.alloc ob).heap.size) :
    SoM w W6 (w'.setCell ⟨G, pre.length * 2 + 1, none⟩ v') O vr (.slice (some ⟨G, 0, none⟩) (pre.length + 1) cap) vl ⟨s.rules, addE s.zones y, s.links⟩ := by
  have hx0 : wr.ownsRow (O + 1) 59 12 ve es.length (es.flatMap EroV) := hs.x (⟨nm, es⟩, ve) (by simp)
  have hk := own_keepD hx0 h.z hg
  have hG := (hs.z.lt G rfl).1
  have hez : addE s.zones y = (pre ++ [((⟨nm, es ++ [y]⟩ : Zon), v')]).map Prod.fst := by
    rw [← ez, List.map_append, List.map_append]
    exact addE_last _ _ _
  refine ⟨BxO.other (h.r.sideV hx0 (by decide) hg) (by have := h.n; omega) _ _, BxO.other (h.o.sideV hx0 (by decide) hg) (by omega) _ _, ⟨_, hez.symm, hs.era ho hg hf⟩, (h.b.trans (hk.mono (Nat.le_succ _))).setCell (p := ⟨G, pre.length * 2 + 1, none⟩) (by show O ≤ G; omega) _, h.c, h.n, ?_, h.e⟩
  rw [World.size_setCell]; exact Nat.lt_of_lt_of_le h.z hk.size
end
end Go.Proofs.YtbciennhcdabeaaGreatDoor
