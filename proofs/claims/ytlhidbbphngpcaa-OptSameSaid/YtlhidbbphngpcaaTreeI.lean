/-
  The copy of an answer by the document's function.
-/
import Derived.Test.YtlhidbbphngpcaaLem
import Derived.Test.YtlhidbbphngpcaaTreeH
namespace Go.Proofs.Ytlhidbbphngpcaa
set_option linter.unusedVariables false
set_option linter.unusedSimpArgs false
open Go.ChangeShapes Go.WideShapes Go.ChangeAt Go.RowKit

set_option maxHeartbeats 2000000 in
theorem answerCopy_any (a : Ans) (vo : Value) (w : World) (hv : SlAt w 1 RInt vo a.offs) (hr : a.offs.length * 8 ≤ 140737488355320) :
    Calls Try.prog 43 #[.agg #[.int .i64 a.ck.off, .bool a.ck.sav, .string a.ck.nm, vo, .int .i64 a.jump]] w fun e w' => ∃ v', e = .returned (.agg #[.int .i64 a.ck.off, .bool a.ck.sav, .string a.ck.nm, v', .int .i64 a.jump]) ∧ w'.ownsRow w.heap.size 3 1 v' a.offs.length (a.offs.flatMap encI) ∧ Below w.heap.size w w' := by
  obtain ⟨⟨off, sav, nm⟩, offs, jump⟩ := a
  dsimp only at hv hr ⊢
  obtain ⟨ao, cap, rfl, hl⟩ := hv.shape
  have HV := Lib.hid hv
  clear hv hl
  obtain ⟨i0, hi, hz0, hz1, hz2⟩ := info_parts info_int
  go_enter Try.func43, Try.ntmps43
  go_wp2
  have bw : Below w.heap.size w ((w.alloc (.cells #[.int .i64 off, .bool sav, .string nm, .slice ao offs.length cap, .int .i64 jump] 39)).alloc (.cells #[.int .i64 0, .bool false, .string ⟨#[]⟩, .slice none 0 0, .int .i64 0] 39)) := ((Below.refl _ _).alloc (Nat.le_refl _) _).alloc (size_le_push_ w _) _
  obtain ⟨hs, b0, b1, g0, g1⟩ := two_new w #[.int .i64 off, .bool sav, .string nm, .slice ao offs.length cap, .int .i64 jump] #[.int .i64 0, .bool false, .string ⟨#[]⟩, .slice none 0 0, .int .i64 0] 39 39
  generalize (w.alloc (.cells #[.int .i64 off, .bool sav, .string nm, .slice ao offs.length cap, .int .i64 jump] 39)).alloc (.cells #[.int .i64 0, .bool false, .string ⟨#[]⟩, .slice none 0 0, .int .i64 0] 39) = W2 at *
  have HS := Lib.hid hs
  have HV2 := Lib.hid (HV.out.mono bw fun _ _ h => h)
  have B0 := Lib.hid b0
  have B1 := Lib.hid b1
  have G0 := Lib.hid g0
  have G1 := Lib.hid g1
  clear hs HV b0 b1 g0 g1
  go_loopw [3, 4] (fun v t wr => ∃ k : Nat, k ≤ offs.length ∧ t = .int .i64 k ∧ wr.ownsRow W2.heap.size 3 1 v (offs.take k).length ((offs.take k).flatMap encI) ∧ Below W2.heap.size W2 wr) (fun _ t _ => (offs.length - intOf t).toNat)
  case atStart => exact ⟨0, by omega, rfl, by simpa using World.ownsRow_nil _ _ _ _, Below.refl _ _⟩
  case round =>
    obtain ⟨k, hk, rfl, hown, hbr⟩ := hrel
    obtain ⟨hc, hf⟩ := bcell hbr
    have h2 := HS.out
    have hsz := hbr.size
    have d3 : wr.cell? ⟨w.heap.size, 3, none⟩ = some (.slice ao offs.length cap) := (hc _ _ (by omega)).trans (B0.out 3)
    have hz0 : w.heap.size < wr.heap.size := by omega
    clear h2
    by_cases hlt : k < offs.length
    · obtain ⟨b, o, rfl, hbb, c0, _⟩ := elemInt HV2.out k hlt
      have hts := take_snoc offs k hlt
      have hlk : (offs.take k).length = k := by rw [List.length_take]; omega
      have hbb' : b < wr.heap.size := by omega
      have c0' : wr.cell? ⟨b, o + k, none⟩ = some (.int .i64 offs[k]) := (hc _ _ hbb).trans c0
      have HTS := Lib.hid hts
      have HLK := Lib.hid hlk
      clear hts hlk hc hf c0
      generalize offs[k] = x at *
      go_wp2_with (at_builtin; refine wpList_append_own _ rfl _ _ 34 rfl W2.heap.size 3 i0 (.int .i64 0) 1 8 Try.underlying34 hi (by assumption) hz1 hz2 rfl (by decide) _ _ _ rfl (hown.alloc _) ⟨wr.heap.size, 0, none⟩ 1 1 [.int .i64 x] rfl rfl (one_cell _ _ _) (by intro u hu; simp at hu; subst hu; rfl) (by rw [HLK.out]; unfold maxLen; omega) (by rw [HLK.out]; omega) (by rw [size_alloc]; omega) ?_; intro v' w1 hown' hgrow _)
      have hB : Below W2.heap.size W2 w1 := (hbr.alloc hsz _).grown hgrow (by rw [size_alloc]; omega) (fun g hg => (hown.lt g hg).1)
      have HO := own_snoc hown'
      rw [← HTS.out] at HO
      clear hown' hgrow
      go_wp2
      go_roundw
      case rel => exact ⟨k + 1, by omega, by go_num, HO, hB⟩
      case measure => simp [intOf]; omega
    · have hfull : offs.take k = offs := List.take_of_length_le (by omega)
      rw [hfull] at hown
      obtain ⟨av, cv, rfl⟩ := own_shape hown
      have h2 := HS.out
      have e0 : wr.cell? ⟨w.heap.size, 0, none⟩ = some (.int .i64 off) := (hc _ _ (by omega)).trans (B0.out 0)
      have e1 : wr.cell? ⟨w.heap.size, 1, none⟩ = some (.bool sav) := (hc _ _ (by omega)).trans (B0.out 1)
      have e2 : wr.cell? ⟨w.heap.size, 2, none⟩ = some (.string nm) := (hc _ _ (by omega)).trans (B0.out 2)
      have e4 : wr.cell? ⟨w.heap.size, 4, none⟩ = some (.int .i64 jump) := (hc _ _ (by omega)).trans (B0.out 4)
      have r0 : wr.cell? ⟨w.heap.size + 1, 0, none⟩ = some (.int .i64 0) := (hc _ _ (by omega)).trans (B1.out 0)
      have r1 : wr.cell? ⟨w.heap.size + 1, 1, none⟩ = some (.bool false) := (hc _ _ (by omega)).trans (B1.out 1)
      have r2 : wr.cell? ⟨w.heap.size + 1, 2, none⟩ = some (.string ⟨#[]⟩) := (hc _ _ (by omega)).trans (B1.out 2)
      have r3 : wr.cell? ⟨w.heap.size + 1, 3, none⟩ = some (.slice none 0 0) := (hc _ _ (by omega)).trans (B1.out 3)
      have r4 : wr.cell? ⟨w.heap.size + 1, 4, none⟩ = some (.int .i64 0) := (hc _ _ (by omega)).trans (B1.out 4)
      have f0 : ∀ j, wr.frozen? ⟨w.heap.size, j, none⟩ = false := fun j => (hf _ _ (by omega)).trans (G0.out j)
      have f1 : ∀ j, wr.frozen? ⟨w.heap.size + 1, j, none⟩ = false := fun j => (hf _ _ (by omega)).trans (G1.out j)
      have hz : w.heap.size + 1 < wr.heap.size := by omega
      have HB : Hid (Below w.heap.size w wr) := bw.trans (hbr.mono bw.size)
      have HO := Lib.hid hown
      clear hc hf hown h2 hfull hbr bw hsz
      go_wp2
      refine bodyPost_ret (v := .agg #[.int .i64 off, .bool sav, .string nm, .slice av offs.length cv, .int .i64 jump]) (by simp [results, Try.results43, go_sem, hz, hz0, r0, r1, r2, r3, r4]) rfl ⟨_, rfl, ?_, ?_⟩
      · have h2 := HS.out
        refine ownsRow_base (B := W2.heap.size) (by omega) ?_
        exact ownsRow_setCell_below (ownsRow_setCell_below (ownsRow_setCell_below (ownsRow_setCell_below (ownsRow_setCell_below (ownsRow_setCell_below HO.out (by show w.heap.size < _; omega) _) (by show w.heap.size + 1 < _; omega) _) (by show w.heap.size + 1 < _; omega) _) (by show w.heap.size + 1 < _; omega) _) (by show w.heap.size + 1 < _; omega) _) (by show w.heap.size + 1 < _; omega) _
      · exact (((((HB.out.setCell (by show w.heap.size ≤ w.heap.size; omega) _).setCell (by show w.heap.size ≤ w.heap.size + 1; omega) _).setCell (by show w.heap.size ≤ w.heap.size + 1; omega) _).setCell (by show w.heap.size ≤ w.heap.size + 1; omega) _).setCell (by show w.heap.size ≤ w.heap.size + 1; omega) _).setCell (by show w.heap.size ≤ w.heap.size + 1; omega) _
end Go.Proofs.Ytlhidbbphngpcaa
