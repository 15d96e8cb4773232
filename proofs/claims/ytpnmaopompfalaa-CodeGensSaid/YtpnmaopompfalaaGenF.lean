/-
  code.following.
-/
import Derived.Test.YtpnmaopompfalaaGenE
namespace Go.Proofs.Ytpnmaopompfalaa
set_option linter.unusedVariables false
set_option linter.unusedSimpArgs false
open Go.ChangeShapes Go.WideShapes Go.ChangeAt Go.RowKit

def RBol (cs : List Value) (x : Bool) : Prop := cs = [.bool x]
theorem elemBol {w : World} {aa : Option Addr} {n ca : Nat} {xs : List Bool} (h : SlAt w 1 RBol (.slice aa n ca) xs) (k : Nat) (hk : k < xs.length) :
    ∃ b off, aa = some ⟨b, off, none⟩ ∧ b < w.heap.size ∧ w.cell? ⟨b, off + k, none⟩ = some (.bool xs[k]) := by
  rcases h with ⟨a, cap, hv, rfl⟩ | ⟨b, off, cap, hv, h0, h1, h2, h3, h4⟩
  · simp at hk
  · obtain ⟨cs, _, rfl, c3⟩ := h4 k hk
    simp only [Value.slice.injEq] at hv
    have := c3 0 (by omega)
    rw [Nat.mul_one, Nat.add_zero] at this
    exact ⟨b, off, hv.1, h3, this⟩
theorem fol_hit {ak : List Bool} {j : Nat} (h : askd ak j = true) : fol ak (j + 1) = j := by
  show (if askd ak j = true then (j : Int) else fol ak j) = _
  rw [if_pos h]
theorem fol_miss {ak : List Bool} {j : Nat} (h : askd ak j = false) : fol ak (j + 1) = fol ak j := by
  show (if askd ak j = true then (j : Int) else fol ak j) = _
  rw [if_neg (by rw [h]; simp)]
set_option maxHeartbeats 1000000 in
theorem following_any (v : Value) (ak : List Bool) (i : Nat) (w : World) (hv : SlAt w 1 RBol v ak) (hi : i < ak.length) :
    Calls Try.prog 84 #[v, .int .i64 i] w fun e w' => e = .returned (.int .i64 (fol ak i)) ∧ w' = w := by
  obtain ⟨av, cv, rfl, hl⟩ := hv.shape
  have hm := maxLen_eq _ hl
  have HV := Lib.hid hv
  have hi9 : (i : Int) < 9223372036854775807 := by omega
  obtain ⟨r, hr⟩ : ∃ r, r = fol ak i := ⟨_, rfl⟩
  rw [← hr]
  have HR := Lib.hid hr
  have HI := Lib.hid hi
  have HM := Lib.hid hm
  clear hv hl hr hi hm
  go_enter Try.func84, Try.ntmps84
  go_wp2
  clear hi9
  go_loopw [1] (fun t wr => ∃ (j : Nat) (J : Int), t = .int .i64 J ∧ Hid (J = (j : Int) - 1) ∧ j ≤ i ∧ Hid (r = fol ak j) ∧ wr = w) (fun t _ => (intOf t + 1).toNat)
  case atStart => exact ⟨i, _, rfl, Lib.hid rfl, Nat.le_refl _, HR, rfl⟩
  case round =>
    obtain ⟨j, J, rfl, hJ, hj, hf, rfl⟩ := hrel
    cases j with
    | zero =>
      have hr : r = -1 := hf.out
      obtain rfl : J = -1 := by have := hJ.out; omega
      subst hr
      go_wp2
      go_ret
      exact ⟨rfl, rfl⟩
    | succ j =>
      obtain rfl : J = (j : Int) := by have := hJ.out; omega
      have hjl : j < ak.length := by have := HI.out; omega
      obtain ⟨b, off, rfl, hb, hc⟩ := elemBol HV.out j hjl
      have hask : askd ak j = ak[j] := by unfold askd; rw [List.getD_eq_getElem?_getD, List.getElem?_eq_getElem hjl]; rfl
      have hjli : (j : Int) < (ak.length : Int) := by omega
      cases hx : ak[j] with
      | true =>
        rw [hx] at hc hask
        have hr : r = j := by rw [hf.out, fol_hit hask]
        subst hr
        clear hask hx
        go_wp2
        go_ret
        exact ⟨rfl, rfl⟩
      | false =>
        rw [hx] at hc hask
        have HF : Hid (r = fol ak j) := by show _ = _; rw [hf.out, fol_miss hask]
        clear hask hx
        have hw : wrap64 ((j : Int) - 1) = (j : Int) - 1 := IntWalk.wrap64_in _ (by have := HM.out; omega)
        have HW := Lib.hid hw
        clear hw
        go_wp2
        go_roundw
        case rel => exact ⟨j, _, rfl, HW, by omega, HF, by first | rfl | trivial⟩
        case measure => simp [intOf, HW.out]
end Go.Proofs.Ytpnmaopompfalaa
