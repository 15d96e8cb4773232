/-
  The law of code.Encode.
-/
import Derived.Test.YtpnmaopompfalaaEncF
import Derived.Laws.BytesArg
namespace Go.Proofs.Ytpnmaopompfalaa
set_option linter.unusedVariables false
set_option linter.unusedSimpArgs false
open Go.ChangeShapes Go.WideShapes Go.ChangeAt Go.RowKit

theorem encB_at (l : List Int) (i : Nat) (h : i < l.length) : (l.flatMap encB)[i]? = some (.int .u8 (l.getD i 0)) := by
  induction l generalizing i with
  | nil => simp at h
  | cons x l ih =>
    cases i with
    | zero => rfl
    | succ i =>
      have := ih i (by simpa using h)
      simpa [encB] using this
theorem conv_own {w : World} {B c : Nat} {a : Option Addr} {l : List Int} (h : RwB w B (.slice a l.length c) l) (h0 : 0 < l.length) : (convert 66 9 (.slice a l.length c)).run Try.prog w = .ok (.string (strOfNums l)) w := by
  obtain ⟨g, rfl, _⟩ := rw_cells h h0
  refine run_convert_bytes_arg (P := Try.prog) w 66 5 Try.underlying66 Try.underlying5 g 0 l.length c l rfl (fun i hi => ?_) 9 Try.underlying9
  rw [Nat.zero_add, World.ownsRow.cellAt h i (by omega)]
  exact encB_at l i hi
set_option maxHeartbeats 2000000 in
theorem walkCodeEncodes (vc vp va : Value) (p : Prg) (w : World) (hp : PrgAt w vc vp va p) :
    Calls Try.prog 13 #[.agg #[vc, vp, va]] w fun e w' => e = .returned (.bool true) ∧ Below w.heap.size w w' := by
  obtain ⟨x0, y0, c, h⟩ : ∃ a b c, verE p = (a, b, c) := ⟨_, _, _, rfl⟩
  have HP := Lib.hid hp
  have bw : Below w.heap.size w (w.alloc (.cells #[vc, vp, va] 58)) := (Below.refl _ _).alloc (Nat.le_refl _) _
  have bz : w.heap.size < (w.alloc (.cells #[vc, vp, va] 58)).heap.size := by rw [size_alloc]; omega
  have b0 : ∀ j, (w.alloc (.cells #[vc, vp, va] 58)).cell? ⟨w.heap.size, j, none⟩ = #[vc, vp, va][j]? := fun j => World.cell?_alloc_at (w := w) _ _ w.heap.size j rfl
  have HB0 := Lib.hid b0
  clear hp b0
  by_cases hc : c = 0
  · subst hc
    have HV := Lib.hid h
    have h0 : 0 < (prgB p).length := by unfold prgB prg3 prg2 prg1; simp <;> omega
    obtain ⟨l, hl⟩ : ∃ l, l = prgB p := ⟨_, rfl⟩
    have HL := Lib.hid hl
    rw [← hl] at h0
    clear h hl
    go_enter Try.func13, Try.ntmps13
    go_wp2_with fail
    refine (encode_ok p _ _ _ _ (HP.out.mono bw) HV.out).mono ?_; rintro e w1 ⟨v1, rfl, ho1, hb1⟩
    rw [← HL.out] at ho1
    obtain ⟨a1, c1, rfl⟩ := own_shape ho1
    have q0 := (hb1.cell (p := ⟨w.heap.size, 0, none⟩) bz).trans (HB0.out 0)
    have q1 := (hb1.cell (p := ⟨w.heap.size, 1, none⟩) bz).trans (HB0.out 1)
    have q2 := (hb1.cell (p := ⟨w.heap.size, 2, none⟩) bz).trans (HB0.out 2)
    have bz1 := Nat.lt_of_lt_of_le bz hb1.size
    have hw1 := bw.trans (hb1.mono bw.size)
    have HO1 := Lib.hid ho1
    clear ho1 hb1
    go_wp2_with fail
    refine (bytesOf_ok p _ _ _ _ (HP.out.mono hw1) HV.out).mono ?_; rintro e w2 ⟨v2, rfl, ho2, hb2⟩
    rw [← HL.out] at ho2
    obtain ⟨a2, c2, rfl⟩ := own_shape ho2
    have k1 := conv_own (RwB.up HO1.out hb2) h0
    have k2 := conv_own ho2 h0
    have hw2 := hw1.trans (hb2.mono hw1.size)
    clear ho2 hb2
    go_wp2
    go_ret
    exact ⟨ret_bool (by simp), hw2⟩
  · have HV := Lib.hid h
    have HC := Lib.hid hc
    clear h hc
    have k0 := fun w : World => run_convert_bytes_nil (P := Try.prog) w 66 5 Try.underlying66 Try.underlying5 0 0 9 Try.underlying9
    go_enter Try.func13, Try.ntmps13
    go_wp2_with fail
    refine (encodeB_bad p _ _ _ _ (HP.out.mono bw) HV.out HC.out).mono ?_; rintro e w1 ⟨rfl, hb1⟩
    have q0 := (hb1.cell (p := ⟨w.heap.size, 0, none⟩) bz).trans (HB0.out 0)
    have q1 := (hb1.cell (p := ⟨w.heap.size, 1, none⟩) bz).trans (HB0.out 1)
    have q2 := (hb1.cell (p := ⟨w.heap.size, 2, none⟩) bz).trans (HB0.out 2)
    have bz1 := Nat.lt_of_lt_of_le bz hb1.size
    have hw1 := bw.trans (hb1.mono bw.size)
    clear hb1
    go_wp2_with fail
    refine (bytesOf_bad p _ _ _ _ (HP.out.mono hw1) HV.out HC.out).mono ?_; rintro e w2 ⟨rfl, hb2⟩
    have hw2 := hw1.trans (hb2.mono hw1.size)
    clear hb2
    go_wp2
    go_ret
    exact ⟨ret_bool (by simp), hw2⟩
end Go.Proofs.Ytpnmaopompfalaa
