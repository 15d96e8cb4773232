/-
  Rows of rules, zones, links and eras that grow: what the walks of both readers ask for.
-/
import Derived.Great.BuildSlice
import Derived.Test.YtcmlcmokjgkciaaGreatDoorJRdH
import Derived.Test.YtcmlcmokjgkciaaGreatDoorJRdJ
import Derived.Test.YtcmlcmokjgkciaaGreatDoorJRdU
namespace Go.Proofs.YtcmlcmokjgkciaaGreatDoor
set_option linter.unusedVariables false
set_option linter.unusedSimpArgs false
open Go.ChangeShapes Go.WideShapes Go.ChangeAt Go.RowKit Civ

theorem info_rlz : (Tryz.prog.info? 80).map (fun i => (i.zero, i.size, i.bytes)) = some (some (.agg #[.string ⟨#[]⟩, .int .i64 0, .int .i64 0, .int .i64 0, .int .i64 0, .int .i64 0, .int .i64 0, .int .i64 0, .int .i64 0, .int .i64 0, .string ⟨#[]⟩]), 11, 104) := by kernel_rfl
theorem info_lnk : (Tryz.prog.info? 86).map (fun i => (i.zero, i.size, i.bytes)) = some (some (.agg #[.string ⟨#[]⟩, .string ⟨#[]⟩]), 2, 32) := by kernel_rfl
theorem info_zon : (Tryz.prog.info? 41).map (fun i => (i.zero, i.size, i.bytes)) = some (some (.agg #[.string ⟨#[]⟩, .slice none 0 0]), 2, 40) := by kernel_rfl
theorem info_ero : (Tryz.prog.info? 38).map (fun i => (i.zero, i.size, i.bytes)) = some (some (.agg #[.int .i64 0, .string ⟨#[]⟩, .int .i64 0, .string ⟨#[]⟩, .bool false, .int .i64 0, .int .i64 0, .int .i64 0, .int .i64 0, .int .i64 0, .int .i64 0, .int .i64 0]), 12, 112) := by kernel_rfl
set_option maxRecDepth 10000 in
theorem fill_rul (c0 c1 c2 c3 c4 c5 c6 c7 c8 c9 c10 : Value) : Instr.fill (fun i => some (i * 11, 11)) ((Array.range (1 * 11)).map ((Value.agg #[.string ⟨#[]⟩, .int .i64 0, .int .i64 0, .int .i64 0, .int .i64 0, .int .i64 0, .int .i64 0, .int .i64 0, .int .i64 0, .int .i64 0, .string ⟨#[]⟩]).cells[· % (Value.agg #[.string ⟨#[]⟩, .int .i64 0, .int .i64 0, .int .i64 0, .int .i64 0, .int .i64 0, .int .i64 0, .int .i64 0, .int .i64 0, .int .i64 0, .string ⟨#[]⟩]).cells.size]!)) [(0, .agg #[c0, c1, c2, c3, c4, c5, c6, c7, c8, c9, c10])] = some #[c0, c1, c2, c3, c4, c5, c6, c7, c8, c9, c10] := by kernel_rfl
set_option maxRecDepth 10000 in
theorem fill_ero (c0 c1 c2 c3 c4 c5 c6 c7 c8 c9 c10 c11 : Value) : Instr.fill (fun i => some (i * 12, 12)) ((Array.range (1 * 12)).map ((Value.agg #[.int .i64 0, .string ⟨#[]⟩, .int .i64 0, .string ⟨#[]⟩, .bool false, .int .i64 0, .int .i64 0, .int .i64 0, .int .i64 0, .int .i64 0, .int .i64 0, .int .i64 0]).cells[· % (Value.agg #[.int .i64 0, .string ⟨#[]⟩, .int .i64 0, .string ⟨#[]⟩, .bool false, .int .i64 0, .int .i64 0, .int .i64 0, .int .i64 0, .int .i64 0, .int .i64 0, .int .i64 0]).cells.size]!)) [(0, .agg #[c0, c1, c2, c3, c4, c5, c6, c7, c8, c9, c10, c11])] = some #[c0, c1, c2, c3, c4, c5, c6, c7, c8, c9, c10, c11] := by kernel_rfl
theorem own_pos {w : World} {D n sz : Nat} {e : TypeId} {v : Value} {xs : List Value} (h : w.ownsRow D e sz v n xs) (hn : 0 < n) : ∃ g cap, v = .slice (some ⟨g, 0, none⟩) n cap ∧ D ≤ g ∧ g < w.heap.size := by
  rcases h.2 with ⟨-, h0⟩ | ⟨g, cap, cur, e', hg, hh, -⟩
  · omega
  · exact ⟨g, cap, e', hg, (Array.getElem?_eq_some_iff.1 hh).1⟩
/-- the cell of the last zone's eras. -/
theorem zon_own {w : World} {D G cap n : Nat} {pre : List (Zon × Value)} {nm : ByteArray} {es : List Ero} {ve : Value} (h : w.ownsRow D 41 2 (.slice (some ⟨G, 0, none⟩) (pre.length + 1) cap) n ((pre ++ [((⟨nm, es⟩ : Zon), ve)]).flatMap encZ)) :
    w.cell? ⟨G, pre.length * 2 + 1, none⟩ = some ve ∧ w.frozen? ⟨G, pre.length * 2 + 1, none⟩ = false ∧ G < w.heap.size := by
  have hn : pre.length + 1 = n := by
    rcases h.2 with ⟨e, -⟩ | ⟨g, c, cur, e, -⟩
    · cases e
    · simp only [Value.slice.injEq] at e; exact e.2.1
  subst hn
  refine ⟨?_, h.frozenAt _, (h.lt G rfl).2⟩
  rw [h.cellAt _ (by omega), List.flatMap_append, List.getElem?_append_right (by rw [flat_encZ]; omega), flat_encZ, show pre.length * 2 + 1 - pre.length * 2 = 1 by omega]
  rfl
/-- an era's box, beside the eras' row that grows. -/
theorem ero_kept {w w' : World} {b D G cap n m : Nat} {cs : Array Value} {xs : List Value} {ve : Value} {ob : Obj} (h : BxO w b cs 38) (hz : w.ownsRow D 41 2 (.slice (some ⟨G, 0, none⟩) m cap) n xs) (hne : ∀ g, ve.ownBlock = some g → g ≠ b) (hg : (w.alloc ob).grownBy w' ve.ownBlock) : BxO w' b cs 38 ∧ b ≠ G := by
  refine ⟨(h.alloc ob).kept hg (fun e => hne b e.symm rfl), ?_⟩
  rcases hz.2 with ⟨e, -⟩ | ⟨g, c, cur, e, -, hh, -⟩
  · cases e
  · simp only [Value.slice.injEq, Option.some.injEq, Addr.mk.injEq, and_true] at e
    obtain ⟨rfl, -⟩ := e
    rintro rfl
    have h2 : w.heap[b]? = some (.cells cs 38 (0, 0)) := h
    rw [hh] at h2
    simp only [Option.some.injEq, Obj.cells.injEq] at h2
    exact absurd h2.2.1 (by decide)
/-- the cell of the last zone's eras, behind the row that grew. -/
theorem zon_kept {w w' : World} {D G cap n m : Nat} {pre : List (Zon × Value)} {nm : ByteArray} {es : List Ero} {ve v1 : Value} {xs : List Value} {ob : Obj} (h : w.ownsRow D 41 2 (.slice (some ⟨G, 0, none⟩) (pre.length + 1) cap) n ((pre ++ [((⟨nm, es⟩ : Zon), ve)]).flatMap encZ)) (hx : w.ownsRow D 38 12 v1 m xs) (hg : (w.alloc ob).grownBy w' v1.ownBlock) :
    w'.cell? ⟨G, pre.length * 2 + 1, none⟩ = some ve ∧ w'.frozen? ⟨G, pre.length * 2 + 1, none⟩ = false ∧ G < w'.heap.size := zon_own (own_sideV h hx (by decide) hg)
theorem lnV_ers {st : RdS} {w : List ByteArray} {k : Nat} (h : ersB st.s k) : ersB (lnV st w).s (k + 1) := by
  unfold lnV
  split
  · intro z hz; have := h z hz; omega
  · split
    · intro z hz
      have hz : z ∈ addE st.s.zones (erV w) := hz
      unfold addE at hz
      split at hz
      · rename_i z0 h0
        rcases List.mem_append.1 hz with hz | hz
        · have := h z (List.dropLast_subset _ hz); omega
        · rw [List.mem_singleton.1 hz]
          have := h z0 (List.mem_of_getLast? h0)
          show (z0.eras ++ [erV w]).length ≤ k + 1
          simp; omega
      · have := h z hz; omega
    · split
      · intro z hz; have := h z hz; omega
      · split
        · intro z hz
          rcases List.mem_append.1 hz with hz | hz
          · have := h z hz; omega
          · rw [List.mem_singleton.1 hz]; show 1 ≤ k + 1; omega
        · intro z hz; have := h z hz; omega
theorem slAt_dropW {w : World} {b off n cap : Nat} {xs : List ByteArray} (h : SlAt w 1 RSt (.slice (some ⟨b, off, none⟩) n cap) xs) (k : Nat) (hk : k ≤ xs.length) : SlAt w 1 RSt (.slice (some ⟨b, off + k, none⟩) (xs.length - k) (cap - k)) (xs.drop k) := by
  by_cases he : k = xs.length
  · subst he
    rw [List.drop_length, Nat.sub_self]
    exact .inl ⟨_, _, rfl, rfl⟩
  · rcases h with ⟨a, c, e, rfl⟩ | ⟨b', o', c', e, h0, h1, h2, h3, h4⟩
    · simp at hk he; exact absurd hk he
    · simp only [Value.slice.injEq, Option.some.injEq, Addr.mk.injEq, and_true] at e
      obtain ⟨⟨rfl, rfl⟩, -, rfl⟩ := e
      refine .inr ⟨b, off + k, cap - k, by rw [List.length_drop], by rw [List.length_drop]; omega, by rw [List.length_drop]; omega, by omega, h3, fun i hi => ?_⟩
      rw [List.length_drop] at hi
      obtain ⟨cs, c1, c2, c3⟩ := h4 (k + i) (by omega)
      refine ⟨cs, c1, by rw [List.getElem_drop]; exact c2, fun j hj => ?_⟩
      rw [← c3 j hj]
      congr 2
      omega
end Go.Proofs.YtcmlcmokjgkciaaGreatDoor
