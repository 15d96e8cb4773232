/-
  tree.leaf: the place of the answer to which a number leads.
-/
import Derived.Test.YtlhidbbphngpcaaTreeF
namespace Go.Proofs.Ytlhidbbphngpcaa
set_option linter.unusedVariables false
set_option linter.unusedSimpArgs false
open Go.ChangeShapes Go.WideShapes Go.ChangeAt Go.RowKit

set_option maxHeartbeats 1000000 in
theorem leaf_any (f : Frs) (vn va : Value) (t : Int) (i : Nat) (a m : Int) (ok : ∀ i (h : i < f.nodes.length), nodE m i f.nodes[i] = 0) (hi : i + 1 = f.nodes.length) (hL : Lf f.nodes t i a) (w : World) (hf : FrsAt w vn va f) :
    Calls Try.prog 49 #[.agg #[vn, va], .int .i64 t] w fun e w' => e = .returned (.int .i64 a) ∧ Below w.heap.size w w' := by
  obtain ⟨ao, cap, rfl, hl2⟩ := hf.1.shape
  obtain ⟨b, off, rfl, hb, c0, c1, c2, c3, c4⟩ := elemNod hf.1 i (by omega)
  have hl' := maxLen_eq _ hl2
  have HF := Lib.hid hf
  have HL := Lib.hid hL
  have HK := Lib.hid ok
  have HY : Hid (NodAt f.nodes f.nodes[i] i) := ⟨by omega, rfl⟩
  have hlen : (f.nodes.length : Int) = (i : Int) + 1 := by omega
  clear hl2 hf hL ok
  generalize f.nodes[i] = x at *
  go_enter Try.func49, Try.ntmps49
  go_wp2
  go_loopw [16] (fun v wr => ∃ (k : Nat) (y : Nod), wr = leafW w (.cells #[Value.slice (some { block := b, off := off }) f.nodes.length cap, va] 26) y ∧ Hid (NodAt f.nodes y k) ∧ Hid (Lf f.nodes t k a)) (fun _ wr => rank f.nodes (boxN (w.heap.size + 1) wr))
  case atStart => exact ⟨i, x, rfl, HY, HL⟩
  case round =>
    obtain ⟨k, y, rfl, hy, hL⟩ := hrel
    have hc := lf_step f.nodes t a k y hL.out hy.out
    rcases hc with ⟨e, ea⟩ | ⟨e, hlt, j, hj, hjk, hr⟩ | ⟨e, hlt, j, hj, hjk, hr⟩
    · have EA := Lib.hid ea
      clear ea c0 c1 c2 c3 c4
      unfold leafW
      rw [e]
      go_wp2
      go_ret
      exact ⟨ret_int EA.out, ((Below.refl _ _).alloc (Nat.le_refl _) _).alloc (size_le_push_ w _) _⟩
    · have hjl : j < f.nodes.length := by obtain ⟨h, _⟩ := hy.out; omega
      obtain ⟨b', off', hbb, hb', d0, d1, d2, d3, d4⟩ := elemNod HF.out.1 j hjl
      obtain ⟨rfl, rfl⟩ : b = b' ∧ off = off' := by simpa using hbb
      have HZ : Hid (NodAt f.nodes f.nodes[j] j) := ⟨hjl, rfl⟩
      have HR := Lib.hid hr
      have HM := Lib.hid (rank_lt f.nodes m HK.out y f.nodes[j] k j hy.out HZ.out e (.inl hj))
      clear c0 c1 c2 c3 c4 hr hbb
      have HJ := Lib.hid hj
      obtain ⟨ylf, yan, ybd, yls, ymr⟩ := y
      dsimp only at e hlt hj
      subst e hj
      generalize f.nodes[j] = z at *
      unfold leafW
      dsimp only
      go_wp2
      go_roundw
      case rel => exact ⟨j, z, rfl, HZ, HR⟩
      case measure =>
        have e1 := boxN_leafW w (.cells #[Value.slice (some { block := b, off := off }) f.nodes.length cap, va] 26) z
        have e2 := boxN_leafW w (.cells #[Value.slice (some { block := b, off := off }) f.nodes.length cap, va] 26) ⟨false, yan, ybd, j, ymr⟩
        unfold leafW at e1 e2
        dsimp only at e1 e2
        rw [e1, e2]
        exact HM.out
    · have hjl : j < f.nodes.length := by obtain ⟨h, _⟩ := hy.out; omega
      obtain ⟨b', off', hbb, hb', d0, d1, d2, d3, d4⟩ := elemNod HF.out.1 j hjl
      obtain ⟨rfl, rfl⟩ : b = b' ∧ off = off' := by simpa using hbb
      have HZ : Hid (NodAt f.nodes f.nodes[j] j) := ⟨hjl, rfl⟩
      have HR := Lib.hid hr
      have HM := Lib.hid (rank_lt f.nodes m HK.out y f.nodes[j] k j hy.out HZ.out e (.inr hj))
      clear c0 c1 c2 c3 c4 hr hbb
      obtain ⟨ylf, yan, ybd, yls, ymr⟩ := y
      dsimp only at e hlt hj
      subst e hj
      generalize f.nodes[j] = z at *
      unfold leafW
      dsimp only
      go_wp2
      go_roundw
      case rel => exact ⟨j, z, rfl, HZ, HR⟩
      case measure =>
        have e1 := boxN_leafW w (.cells #[Value.slice (some { block := b, off := off }) f.nodes.length cap, va] 26) z
        have e2 := boxN_leafW w (.cells #[Value.slice (some { block := b, off := off }) f.nodes.length cap, va] 26) ⟨false, yan, ybd, yls, j⟩
        unfold leafW at e1 e2
        dsimp only at e1 e2
        rw [e1, e2]
        exact HM.out
end Go.Proofs.Ytlhidbbphngpcaa
