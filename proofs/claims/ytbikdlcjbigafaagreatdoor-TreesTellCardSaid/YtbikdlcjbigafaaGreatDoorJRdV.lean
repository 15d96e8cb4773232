/-
  A source that is read: how it lies while it grows.
-/
import Derived.Maps.AppendAt
import Derived.Test.YtbikdlcjbigafaaGreatDoorJRdA
namespace Go.Proofs.YtbikdlcjbigafaaGreatDoor
set_option linter.unusedVariables false
set_option linter.unusedSimpArgs false
open Go.ChangeShapes Go.WideShapes Go.ChangeAt Go.RowKit Civ

def encZ (z : Zon × Value) : List Value := [.string z.1.nm, z.2]
def encK (l : Lnk) : List Value := [.string l.of, .string l.nm]
theorem rulV_on1 (r : Rul) : ∀ u ∈ RulV r, u.oneCell' = true := by
  intro u hu
  simp [RulV] at hu
  rcases hu with rfl | rfl | rfl | rfl | rfl | rfl | rfl | rfl | rfl | rfl | rfl <;> rfl
theorem eroV_one (x : Ero) : ∀ u ∈ EroV x, u.oneCell' = true := by
  intro u hu
  simp [EroV] at hu
  rcases hu with rfl | rfl | rfl | rfl | rfl | rfl | rfl | rfl | rfl | rfl | rfl | rfl <;> rfl
theorem encK_one (l : Lnk) : ∀ u ∈ encK l, u.oneCell' = true := by
  intro u hu
  simp [encK] at hu
  rcases hu with rfl | rfl <;> rfl
theorem encZ_one (n : ByteArray) (es : List Ero) (a : Option Addr) (k c : Nat) : ∀ u ∈ encZ (⟨n, es⟩, .slice a k c), u.oneCell' = true := by
  intro u hu
  simp [encZ] at hu
  rcases hu with rfl | rfl <;> rfl
/-- rows of rules, zones, links; each zone's row of eras. -/
structure SrR (w : World) (D : Nat) (vr vz vl : Value) (rs : List Rul) (zs : List (Zon × Value)) (ls : List Lnk) : Prop where
  r : w.ownsRow D 58 11 vr rs.length (rs.flatMap RulV)
  z : w.ownsRow D 65 2 vz zs.length (zs.flatMap encZ)
  l : w.ownsRow D 61 2 vl ls.length (ls.flatMap encK)
  x : ∀ z ∈ zs, w.ownsRow D 68 12 z.2 z.1.eras.length (z.1.eras.flatMap EroV)
  d : zs.Pairwise fun a b => ∀ g, a.2.ownBlock = some g → b.2.ownBlock ≠ some g
theorem own_sideV {wx w' : World} {B n n' sz sz' : Nat} {e e' : TypeId} {v v' : Value} {xs xs' : List Value} {o : Obj} (h : wx.ownsRow B e sz v n xs) (h' : wx.ownsRow B e' sz' v' n' xs') (hne : e ≠ e') (hg : (wx.alloc o).grownBy w' v'.ownBlock) : w'.ownsRow B e sz v n xs := (h.alloc o).kept hg (own_apart h h' hne)
theorem own_goneV {wx w' : World} {ob : Obj} {D sz n : Nat} {e : TypeId} {v : Value} {xs : List Value} (h : wx.ownsRow D e sz v n xs) {row : Option Nat} (hne : ∀ g, v.ownBlock = some g → row ≠ some g) (hg : (wx.alloc ob).grownBy w' row) : w'.ownsRow D e sz v n xs := by
  refine (h.alloc ob).kept hg ?_
  cases hv : v.ownBlock with
  | none => exact .inl rfl
  | some g => exact .inr fun e => hne g hv e.symm
theorem BxO.sideV {w w' : World} {b : Nat} {cs : Array Value} {t e : TypeId} {D sz n : Nat} {v : Value} {xs : List Value} {o : Obj} (h : BxO w b cs t) (ho : w.ownsRow D e sz v n xs) (hne : t ≠ e) (hg : (w.alloc o).grownBy w' v.ownBlock) : BxO w' b cs t := by
  refine (h.alloc o).kept hg ?_
  rcases ho.2 with ⟨rfl, -⟩ | ⟨g, cap, cur, rfl, -, hh, -⟩
  · simp [Value.ownBlock]
  · intro e'
    have e' : b = g := by simpa [Value.ownBlock] using e'
    subst e'
    have h2 : w.heap[b]? = some (.cells cs t (0, 0)) := h
    rw [hh] at h2
    simp only [Option.some.injEq, Obj.cells.injEq] at h2
    exact hne h2.2.1.symm
/-- a cell of a row of another type is written. -/
theorem own_asideV {w : World} {b i D n sz sz' n' D' cap' : Nat} {e e' : TypeId} {v : Value} {xs xs' : List Value} (ho : w.ownsRow D e sz v n xs) (h' : w.ownsRow D' e' sz' (.slice (some ⟨b, 0, none⟩) n' cap') n' xs') (hne : e ≠ e') (u : Value) : (w.setCell ⟨b, i, none⟩ u).ownsRow D e sz v n xs := by
  have ha := own_apart ho h' hne
  obtain ⟨h1, h2⟩ := ho
  refine ⟨h1, ?_⟩
  rcases h2 with h2 | ⟨g, cap, cur, hv, hg, hh, r⟩
  · exact .inl h2
  · refine .inr ⟨g, cap, cur, hv, hg, (Below.heap_setCell _ _ _ _ ?_).trans hh, r⟩
    intro e'
    subst e'
    rw [hv] at ha
    simp [Value.ownBlock] at ha
/-- a cell of a box of another type is written. -/
theorem own_boxV {w : World} {b i D n sz : Nat} {cs : Array Value} {t e : TypeId} {v : Value} {xs : List Value} (ho : w.ownsRow D e sz v n xs) (hb : BxO w b cs t) (hne : t ≠ e) (u : Value) : (w.setCell ⟨b, i, none⟩ u).ownsRow D e sz v n xs := by
  obtain ⟨h1, h2⟩ := ho
  refine ⟨h1, ?_⟩
  rcases h2 with h2 | ⟨g, cap, cur, hv, hg, hh, r⟩
  · exact .inl h2
  · refine .inr ⟨g, cap, cur, hv, hg, (Below.heap_setCell _ _ _ _ ?_).trans hh, r⟩
    intro e'
    subst e'
    have h2 : w.heap[g]? = some (.cells cs t (0, 0)) := hb
    rw [hh] at h2
    simp only [Option.some.injEq, Obj.cells.injEq] at h2
    exact hne h2.2.1.symm
/-- a cell of a row is written. -/
theorem own_putV {w : World} {D n sz cap g i : Nat} {e : TypeId} {xs : List Value} (h : w.ownsRow D e sz (.slice (some ⟨g, 0, none⟩) n cap) n xs) (hi : i < n * sz) (u : Value) : (w.setCell ⟨g, i, none⟩ u).ownsRow D e sz (.slice (some ⟨g, 0, none⟩) n cap) n (xs.set i u) := by
  obtain ⟨h1, h2⟩ := h
  refine ⟨by rw [List.length_set]; exact h1, ?_⟩
  rcases h2 with ⟨h2, -⟩ | ⟨g', cap', cur, hv, hg, hh, hc, hm, hs, ht⟩
  · cases h2
  · simp only [Value.slice.injEq, Option.some.injEq, Addr.mk.injEq, and_true, true_and] at hv
    obtain ⟨rfl, rfl⟩ := hv
    refine .inr ⟨g, cap, cur.setIfInBounds i u, rfl, hg, ?_, hc, hm, by simp [hs], ?_⟩
    · simp [World.setCell, Array.getElem?_modify, hh]
    · rw [Array.toList_setIfInBounds, List.take_set, ht]
section
variable {w w' : World} {D : Nat} {vr vz vl : Value} {rs : List Rul} {zs : List (Zon × Value)} {ls : List Lnk} {ob : Obj}
theorem SrR.next (h : SrR w D vr vz vl rs zs ls) (hb : Below w.heap.size w w') : SrR w' D vr vz vl rs zs ls :=
  ⟨ownsRow_below h.r hb (Nat.le_refl _), ownsRow_below h.z hb (Nat.le_refl _), ownsRow_below h.l hb (Nat.le_refl _), fun z hz => ownsRow_below (h.x z hz) hb (Nat.le_refl _), h.d⟩
theorem SrR.mt (w : World) (D : Nat) : SrR w D (.slice none 0 0) (.slice none 0 0) (.slice none 0 0) [] [] [] :=
  ⟨World.ownsRow_nil _ _ _ _, World.ownsRow_nil _ _ _ _, World.ownsRow_nil _ _ _ _, fun z hz => by simp at hz, List.Pairwise.nil⟩
/-- a cell of a box of another type is written. -/
theorem SrR.box {b i : Nat} {cs : Array Value} {t : TypeId} (h : SrR w D vr vz vl rs zs ls) (hb : BxO w b cs t) (h1 : t ≠ 58) (h2 : t ≠ 65) (h3 : t ≠ 61) (h4 : t ≠ 68) (u : Value) : SrR (w.setCell ⟨b, i, none⟩ u) D vr vz vl rs zs ls :=
  ⟨own_boxV h.r hb h1 u, own_boxV h.z hb h2 u, own_boxV h.l hb h3 u, fun z hz => own_boxV (h.x z hz) hb h4 u, h.d⟩
theorem SrR.rule {vr' : Value} {y : Rul} (h : SrR w D vr vz vl rs zs ls) (ho : w'.ownsRow D 58 11 vr' (rs.length + 1) (rs.flatMap RulV ++ RulV y)) (hg : (w.alloc ob).grownBy w' vr.ownBlock) : SrR w' D vr' vz vl (rs ++ [y]) zs ls :=
  ⟨own_snocG ho, own_sideV h.z h.r (by decide) hg, own_sideV h.l h.r (by decide) hg, fun z hz => own_sideV (h.x z hz) h.r (by decide) hg, h.d⟩
theorem SrR.link {vl' : Value} {y : Lnk} (h : SrR w D vr vz vl rs zs ls) (ho : w'.ownsRow D 61 2 vl' (ls.length + 1) (ls.flatMap encK ++ encK y)) (hg : (w.alloc ob).grownBy w' vl.ownBlock) : SrR w' D vr vz vl' rs zs (ls ++ [y]) :=
  ⟨own_sideV h.r h.l (by decide) hg, own_sideV h.z h.l (by decide) hg, own_snocG ho, fun z hz => own_sideV (h.x z hz) h.l (by decide) hg, h.d⟩
theorem SrR.zone {vz' : Value} {y : Zon × Value} (h : SrR w D vr vz vl rs zs ls) (hy : w.ownsRow D 68 12 y.2 y.1.eras.length (y.1.eras.flatMap EroV)) (hd : ∀ a ∈ zs, ∀ g, a.2.ownBlock = some g → y.2.ownBlock ≠ some g)
    (ho : w'.ownsRow D 65 2 vz' (zs.length + 1) (zs.flatMap encZ ++ encZ y)) (hg : (w.alloc ob).grownBy w' vz.ownBlock) : SrR w' D vr vz' vl rs (zs ++ [y]) ls := by
  refine ⟨own_sideV h.r h.z (by decide) hg, own_snocG ho, own_sideV h.l h.z (by decide) hg, fun z hz => ?_, List.pairwise_append.2 ⟨h.d, List.pairwise_singleton _ _, fun a ha b hb => ?_⟩⟩
  · rcases List.mem_append.1 hz with hz | hz
    · exact own_sideV (h.x z hz) h.z (by decide) hg
    · rw [List.mem_singleton.1 hz]; exact own_sideV hy h.z (by decide) hg
  · rw [List.mem_singleton.1 hb]; exact hd a ha
theorem flat_encZ : ∀ (l : List (Zon × Value)), (l.flatMap encZ).length = l.length * 2
  | [] => rfl
  | z :: l => by rw [List.flatMap_cons, List.length_append, flat_encZ l, List.length_cons]; simp only [encZ, List.length_cons, List.length_nil]; omega
/-- the last zone has an era more. -/
theorem SrR.era {G cap : Nat} {pre : List (Zon × Value)} {nm : ByteArray} {es : List Ero} {ve ve' : Value} {y : Ero} (h : SrR w D vr (.slice (some ⟨G, 0, none⟩) (pre.length + 1) cap) vl rs (pre ++ [(⟨nm, es⟩, ve)]) ls)
    (ho : w'.ownsRow D 68 12 ve' (es.length + 1) (es.flatMap EroV ++ EroV y)) (hg : (w.alloc ob).grownBy w' ve.ownBlock) (hf : ve'.ownBlock = ve.ownBlock ∨ ve'.ownBlock = some (w.alloc ob).heap.size) :
    SrR (w'.setCell ⟨G, pre.length * 2 + 1, none⟩ ve') D vr (.slice (some ⟨G, 0, none⟩) (pre.length + 1) cap) vl rs (pre ++ [(⟨nm, es ++ [y]⟩, ve')]) ls := by
  have hx0 : w.ownsRow D 68 12 ve es.length (es.flatMap EroV) := h.x (⟨nm, es⟩, ve) (by simp)
  obtain ⟨dp, -, dl⟩ := List.pairwise_append.1 h.d
  have hz' : w'.ownsRow D 65 2 (.slice (some ⟨G, 0, none⟩) (pre.length + 1) cap) (pre.length + 1) ((pre ++ [((⟨nm, es⟩ : Zon), ve)]).flatMap encZ) := by
    have := own_sideV h.z hx0 (by decide) hg
    rwa [List.length_append] at this
  have hz2 := own_putV hz' (i := pre.length * 2 + 1) (by omega) ve'
  refine ⟨own_asideV (own_sideV h.r hx0 (by decide) hg) hz' (by decide) _, ?_, own_asideV (own_sideV h.l hx0 (by decide) hg) hz' (by decide) _, fun z hz => ?_, List.pairwise_append.2 ⟨dp, List.pairwise_singleton _ _, fun a ha b hb => ?_⟩⟩
  · have e : (pre ++ [((⟨nm, es ++ [y]⟩ : Zon), ve')]).flatMap encZ = ((pre ++ [((⟨nm, es⟩ : Zon), ve)]).flatMap encZ).set (pre.length * 2 + 1) ve' := by
      rw [List.flatMap_append, List.flatMap_append, List.set_append_right _ _ (by rw [flat_encZ]; omega), flat_encZ]
      rw [show pre.length * 2 + 1 - pre.length * 2 = 1 by omega]
      rfl
    rw [e, List.length_append]
    exact hz2
  · rcases List.mem_append.1 hz with hz | hz
    · exact own_asideV (own_goneV (h.x z (List.mem_append_left _ hz)) (fun g e => dl z hz (⟨nm, es⟩, ve) (by simp) g e) hg) hz' (by decide) _
    · rw [List.mem_singleton.1 hz]
      have := own_snocG ho
      exact own_asideV this hz' (by decide) _
  · rw [List.mem_singleton.1 hb]
    intro g e
    rcases hf with e' | e'
    · rw [e']; exact dl a ha (⟨nm, es⟩, ve) (by simp) g e
    · intro e2
      have h1 := ((h.x a (List.mem_append_left _ ha)).lt g e).2
      rw [e', size_alloc] at e2
      have := Option.some.inj e2
      omega
end
def XRul (cs : List Value) (r : Rul) : Prop := cs = RulV r
def XEro (cs : List Value) (x : Ero) : Prop := cs = EroV x
def XLnk (cs : List Value) (l : Lnk) : Prop := cs = encK l
def XZon (w : World) (cs : List Value) (z : Zon) : Prop := ∃ v, cs = [.string z.nm, v] ∧ SlAt w 12 XEro v z.eras
def SrX (w : World) (vr vz vl : Value) (s : Src) : Prop := SlAt w 11 XRul vr s.rules ∧ SlAt w 2 (XZon w) vz s.zones ∧ SlAt w 2 XLnk vl s.links
theorem XZon.mono {w w' : World} (hb : Below w.heap.size w w') (cs : List Value) (x : Zon) (h : XZon w cs x) : XZon w' cs x := by
  obtain ⟨v, h1, h2⟩ := h
  exact ⟨v, h1, h2.mono hb fun _ _ h => h⟩
theorem SrX.mono {w w' : World} {vr vz vl : Value} {s : Src} (h : SrX w vr vz vl s) (hb : Below w.heap.size w w') : SrX w' vr vz vl s :=
  ⟨h.1.mono hb fun _ _ h => h, h.2.1.mono hb (XZon.mono hb), h.2.2.mono hb fun _ _ h => h⟩
theorem SrR.read {w : World} {D : Nat} {vr vz vl : Value} {rs : List Rul} {zs : List (Zon × Value)} {ls : List Lnk} (h : SrR w D vr vz vl rs zs ls) : SrX w vr vz vl ⟨rs, zs.map Prod.fst, ls⟩ := by
  refine ⟨slAt_of_own (enc := RulV) (by omega) (fun _ => rfl) (fun _ _ => rfl) h.r, ?_, slAt_of_own (enc := encK) (by omega) (fun _ => rfl) (fun _ _ => rfl) h.l⟩
  refine slAt_via Prod.fst (slAt_of_own (enc := encZ) (R := fun cs x => cs = encZ x) (by omega) (fun _ => rfl) (fun _ _ => rfl) h.z) fun cs x hx hc => ?_
  exact ⟨x.2, hc, slAt_of_own (enc := EroV) (by omega) (fun _ => rfl) (fun _ _ => rfl) (h.x x hx)⟩
theorem SrX.mt (w : World) : SrX w (.slice none 0 0) (.slice none 0 0) (.slice none 0 0) src0 := SrR.read (SrR.mt w 0)
/-- what has been read lies so. -/
def SrS (w : World) (D : Nat) (vr vz vl : Value) (s : Src) : Prop := ∃ zs : List (Zon × Value), zs.map Prod.fst = s.zones ∧ SrR w D vr vz vl s.rules zs s.links
theorem SrS.next {w w' : World} {D : Nat} {vr vz vl : Value} {s : Src} (h : SrS w D vr vz vl s) (hb : Below w.heap.size w w') : SrS w' D vr vz vl s := by
  obtain ⟨zs, e, h⟩ := h
  exact ⟨zs, e, h.next hb⟩
theorem SrS.read {w : World} {D : Nat} {vr vz vl : Value} {s : Src} (h : SrS w D vr vz vl s) : SrX w vr vz vl s := by
  obtain ⟨zs, e, h⟩ := h
  have := h.read
  rw [e] at this
  exact this
theorem SrS.mt (w : World) (D : Nat) : SrS w D (.slice none 0 0) (.slice none 0 0) (.slice none 0 0) src0 := ⟨[], rfl, SrR.mt w D⟩
theorem addE_last (pre : List Zon) (z : Zon) (x : Ero) : addE (pre ++ [z]) x = pre ++ [⟨z.nm, z.eras ++ [x]⟩] := by
  unfold addE
  rw [List.getLast?_append]
  simp
theorem lastN_last (pre : List Zon) (z : Zon) : lastN (pre ++ [z]) = z.eras.length := by
  unfold lastN
  rw [List.getLast?_append]
  simp
end Go.Proofs.YtbikdlcjbigafaaGreatDoor
