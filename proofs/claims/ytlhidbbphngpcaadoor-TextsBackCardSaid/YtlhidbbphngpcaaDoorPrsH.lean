/-
  sameCode of two readings of one code; the law CodeParses: its walk.
-/
import Derived.StillTailTactics
import Derived.Test.YtlhidbbphngpcaaDoorPrsG
namespace Go.Proofs.YtlhidbbphngpcaaDoor
set_option linter.unusedVariables false
set_option linter.unusedSimpArgs false
open Go.ChangeShapes Go.WideShapes Go.ChangeAt Go.RowKit

set_option maxHeartbeats 1000000 in
theorem sameCodeT (v u : Value) (xs : List Ins) (w : World) (hv : SlAt w 2 RIns v xs) (hu : SlAt w 2 RIns u xs) :
    Calls Tryd.prog 10 #[v, u] w fun e w' => e = .returned (.bool true) ∧ ∃ q, w' = w.drewN q := by
  obtain ⟨av, cv, rfl, lv⟩ := hv.shape
  obtain ⟨au, cu, rfl, lu⟩ := hu.shape
  have HV := Lib.hid hv
  have HU := Lib.hid hu
  have hm := maxLen_eq _ lv
  clear hv hu lv lu
  go_enter Tryd.func10, Tryd.ntmps10
  go_wp2
  go_loopw [5] (fun i wr => ∃ k q : Nat, k ≤ xs.length ∧ i = .int .i64 k ∧ wr = w.drewN q) (fun i _ => (xs.length - intOf i).toNat)
  case atStart => exact ⟨0, 0, Nat.zero_le _, rfl, rfl⟩
  case round =>
    obtain ⟨k, q, hk, rfl, rfl⟩ := hrel
    by_cases hlt : k < xs.length
    · obtain ⟨b, off, rfl, hb, ⟨c0, c1⟩, _, _⟩ := elemInsT HV.out k hlt
      obtain ⟨b2, off2, rfl, hb2, ⟨d0, d1⟩, _, _⟩ := elemInsT HU.out k hlt
      generalize xs[k] = x at *
      have hlti : (k : Int) < (xs.length : Int) := by omega
      go_wp2
      go_quiet (fail)
      go_wp2
      go_roundw
      case rel => exact ⟨k + 1, _, by omega, by go_num, rfl⟩
      case measure => simp [intOf]; omega
    · go_wp2
      go_ret
      exact ⟨rfl, q, rfl⟩
set_option maxRecDepth 100000 in
set_option maxHeartbeats 4000000 in
theorem walkCodeParses (s : ByteArray) (w : World) (hs : s.size ≤ maxLen) (hV : PrV w) :
    Calls Tryd.prog 4 #[.string s] w fun e w' => e = .returned (.bool true) ∧ Below w.heap.size w w' := by
  obtain ⟨L, rfl⟩ : ∃ L : List UInt8, s = ⟨L.toArray⟩ := ⟨s.data.toList, by simp⟩
  obtain ⟨R, hR⟩ : ∃ R, R = prsA L := ⟨_, rfl⟩
  have HV := Lib.hid hV
  clear hV hs
  go_enter Tryd.func4, Tryd.ntmps4
  go_wp2_with fail
  refine (parse_any L w HV.out).mono ?_
  rintro e w1 ⟨v1, rfl, h1, hb1⟩
  rw [← hR] at h1 ⊢
  go_wp2_with fail
  refine (codeOf_any L w1).mono ?_
  rintro e w2 ⟨v2, rfl, h2, hb2⟩
  rw [← hR] at h2 ⊢
  have H1 := Lib.hid (h1.up hb2).sl
  have H2 := Lib.hid h2.sl
  have HB := Lib.hid (hb1.trans (hb2.mono hb1.size))
  clear h1 h2 hb1 hb2 hR
  go_wp2_with fail
  refine (sameCodeT v1 v2 R.1 w2 H1.out H2.out).mono ?_
  rintro e w3 ⟨rfl, q, rfl⟩
  go_wp2
  go_ret
  exact ⟨rfl, below_draws HB.out q⟩
end Go.Proofs.YtlhidbbphngpcaaDoor
