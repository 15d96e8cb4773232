/-
  What code.Parse calls: contracts by the listed variables.
-/
import Derived.Test.YtlhidbbphngpcaaDoorPrsD
import Derived.Test.YtlhidbbphngpcaaDoorShPrs
import Derived.Test.YtlhidbbphngpcaaDoorShTxt
import Derived.Test.YtlhidbbphngpcaaDoorMxl
import Derived.Test.YtlhidbbphngpcaaDoorNam
import Derived.Lib.AppendIntMem
namespace Go.Proofs.YtlhidbbphngpcaaDoor
set_option linter.unusedVariables false
set_option linter.unusedSimpArgs false
open Go.ChangeShapes Go.WideShapes Go.ChangeAt Go.RowKit

def ErV (w : World) : Prop := (∃ tp p, w.cell? ⟨2, 0, none⟩ = some (.iface tp p)) ∧ (∃ tp p, w.cell? ⟨3, 0, none⟩ = some (.iface tp p))
/-- the listed variables, as the program lays them. -/
def PrV (w : World) : Prop := NmT w ∧ MxL w ∧ Lib.TabIs Tryd.prog w "internal/strconv.uint64pow10" .u64 Lib.pow10Tab ∧ ErV w
theorem PrV.below {w w' : World} (h : PrV w) (hb : Below w.heap.size w w') : PrV w' := by
  obtain ⟨h1, h2, h3, ⟨ts, ps, hs⟩, ⟨tr, pr, hr⟩⟩ := h
  exact ⟨h1.below hb, h2.below hb, Lib.tabBelow_of_tabIs h3 w' hb, ⟨ts, ps, (hb.cell (p := ⟨_, 0, none⟩) (blk_of_cell hs)).trans hs⟩, ⟨tr, pr, (hb.cell (p := ⟨_, 0, none⟩) (blk_of_cell hr)).trans hr⟩⟩
theorem cutPr (S : List UInt8) (c : UInt8) (w : World) (h : PrV w) (hs : S.length < 4294967281) :
    Calls Tryd.prog 22 #[.string ⟨S.toArray⟩, .string ⟨#[c]⟩] w fun e w' => e = .returned (.tuple #[.string ⟨(cutB c S).1.toArray⟩, .string ⟨(cutB c S).2.1.toArray⟩, .bool (cutB c S).2.2]) ∧ Below w.heap.size w w' := by
  obtain ⟨m, hm⟩ := h.2.1.1
  refine (Sh.strings_Cut ⟨S.toArray⟩ ⟨#[c]⟩ m w (by simpa [ByteArray.size] using hs) hm).mono ?_
  rintro e w' ⟨rfl, n, rfl⟩
  refine ⟨?_, below_draws (Below.refl _ _) n⟩
  have e1 : Lib.cut (ByteArray.mk S.toArray).data.toList (ByteArray.mk #[c]).data.toList = cutB c S := by
    show Lib.cut S.toArray.toList [c] = _
    rw [List.toList_toArray, cut_one]
  rw [e1]
theorem zsN_at (j : Nat) (hj : j < zsN.length) : zsN.getD j ByteArray.empty = ⟨(nmS.getD (1 + j) []).toArray⟩ := by
  have : zsN.length = 6 := rfl
  match j, hj with
  | 0, _ => rfl
  | 1, _ => rfl
  | 2, _ => rfl
  | 3, _ => rfl
  | 4, _ => rfl
  | 5, _ => rfl
  | j + 6, h => exact absurd h (by rw [this]; omega)
theorem idxP (W : List UInt8) (w : World) (h : PrV w) :
    Calls Tryd.prog 23 #[.slice (some ⟨0, 1, none⟩) 6 6, .string ⟨W.toArray⟩] w fun e w' => e = .returned (.int .i64 (opOf W - 1)) ∧ w' = w := by
  refine (Sh.slices_Index_string 0 1 6 6 zsN ⟨W.toArray⟩ w (by decide) (by decide) (fun j hj => ?_)).mono ?_
  · rw [zsN_at j hj]
    have hj' : 1 + j < 7 := by have : zsN.length = 6 := rfl; omega
    rw [h.1.1 (1 + j) hj', List.getD_eq_getElem?_getD, List.getElem?_eq_getElem]
    rfl
  · rintro e w' ⟨rfl, rfl⟩
    exact ⟨by rw [← opOf_idx W]; congr 2; omega, rfl⟩
theorem atoi_bound {l : List UInt8} {k : Int} (h : Lib.atoiAll l = .ok k) : -9223372036854775808 ≤ k ∧ k ≤ 9223372036854775807 := by
  unfold Lib.atoiAll at h
  split at h
  · cases h
  · dsimp only at h
    split at h
    · cases h
    · cases h
    · split at h
      · cases h
      · split at h
        · cases h
        · rename_i h1 h2
          injection h with h
          subst h
          split <;> omega
theorem atoiP (N : List UInt8) (w : World) (h : PrV w) (hN : N.length ≤ 1000000) :
    Calls Tryd.prog 24 #[.string ⟨N.toArray⟩] w fun e w' => (∃ k ev, e = .returned (.tuple #[.int .i64 k, ev]) ∧ ((ev = .nilIface ∧ Lib.atoiAll N = .ok k ∧ -9223372036854775808 ≤ k ∧ k ≤ 9223372036854775807) ∨ ((∃ t p, ev = .iface t p) ∧ numC N = none))) ∧ Below w.heap.size w w' := by
  have hsz : (ByteArray.mk N.toArray).size = N.length := by simp [ByteArray.size]
  have hl : (ByteArray.mk N.toArray).data.toList = N := by simp
  obtain ⟨-, -, -, ⟨ts, ps, hs⟩, ⟨tr, pr, hr⟩⟩ := h
  rcases hx : Lib.atoiAll N with k | _ | _
  · refine (Sh.strconv_Atoi_ok ⟨N.toArray⟩ (by rw [hsz]; omega) k (by rw [hl]; exact hx) w).mono ?_
    rintro e w' ⟨rfl, hw⟩
    refine ⟨⟨k, .nilIface, rfl, .inl ⟨rfl, rfl, atoi_bound hx⟩⟩, ?_⟩
    rcases hw with rfl | ⟨t, rfl⟩
    · exact Below.refl _ _
    · exact Joins.below_bytesWorld _ _ _ _ (Nat.le_refl _)
  · refine (Sh.strconv_Atoi_syntax ⟨N.toArray⟩ (by rw [hsz]; omega) (by rw [hl, hx]; intro k e; cases e) (by rw [hl, hx]; intro e; cases e) _ w hs (.inr ⟨_, _, rfl⟩)).mono ?_
    rintro e w' ⟨n, rfl, -, -, hb⟩
    exact ⟨⟨_, _, rfl, .inr ⟨⟨_, _, rfl⟩, by unfold numC; rw [hx]⟩⟩, hb⟩
  · refine (Sh.strconv_Atoi_range ⟨N.toArray⟩ (by rw [hsz]; omega) (by rw [hl]; exact hx) _ w hr (.inr ⟨_, _, rfl⟩)).mono ?_
    rintro e w' ⟨n, rfl, -, -, hb⟩
    exact ⟨⟨_, _, rfl, .inr ⟨⟨_, _, rfl⟩, by unfold numC; rw [hx]⟩⟩, hb⟩
theorem itoaP (n : Int) (w : World) (h : PrV w) (h0 : -9223372036854775808 ≤ n) (h1 : n ≤ 9223372036854775807) :
    Calls Tryd.prog 15 #[.int .i64 n] w fun e w' => e = .returned (.string ⟨(Lib.itoa n).toArray⟩) ∧ Below w.heap.size w w' := by
  refine (Sh.strconv_Itoa n h0 h1 w h.2.2.1).mono ?_
  rintro e w' ⟨rfl, k, os, rfl⟩
  exact ⟨rfl, Lib.below_grow _ _ (Nat.le_refl _) k os⟩
end Go.Proofs.YtlhidbbphngpcaaDoor
