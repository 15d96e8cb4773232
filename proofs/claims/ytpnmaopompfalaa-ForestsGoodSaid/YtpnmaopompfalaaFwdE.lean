/-
  tree.Forward.
-/
import Derived.Test.YtpnmaopompfalaaLem
import Derived.Test.YtpnmaopompfalaaFwdB
import Derived.Test.YtpnmaopompfalaaFwdD
namespace Go.Proofs.Ytpnmaopompfalaa
set_option linter.unusedVariables false
set_option linter.unusedSimpArgs false
open Go.ChangeShapes Go.WideShapes Go.ChangeAt Go.RowKit

def pcs (xs : List Spn) : List Pc := xs.mapIdx fun i x => ⟨x.fr, i⟩
def ansOf (x : Spn) : Ans := ⟨x.ck, [], 0⟩
def fwdF (xs : List Spn) : Frs := ⟨chN (pcs xs), xs.map ansOf⟩
def encA0 (x : Ans) : List Value := [.int .i64 x.ck.off, .bool x.ck.sav, .string x.ck.nm, .slice none 0 0, .int .i64 x.jump]
theorem info_ans : (Try.prog.info? 27).map (fun i => (i.zero, i.size, i.bytes)) = some (some (.agg #[.int .i64 0, .bool false, .string ⟨#[]⟩, .slice none 0 0, .int .i64 0]), 5, 64) := by kernel_rfl
theorem info_pc : (Try.prog.info? 89).map (fun i => (i.zero, i.size, i.bytes)) = some (some (.agg #[.int .i64 0, .int .i64 0]), 2, 16) := by kernel_rfl
theorem encA0_one (x : Ans) : ∀ u ∈ encA0 x, u.oneCell' = true := by
  intro u hu
  simp [encA0] at hu
  rcases hu with rfl | rfl | rfl | rfl | rfl <;> rfl
theorem pcs_len (xs : List Spn) : (pcs xs).length = xs.length := by simp [pcs]
theorem pcs_at (xs : List Spn) (k : Nat) (h : k < xs.length) : (pcs xs)[k]'(by rw [pcs_len]; exact h) = ⟨xs[k].fr, k⟩ := by simp [pcs]
theorem take_pcs (xs : List Spn) (k : Nat) (h : k < xs.length) : (pcs xs).take (k + 1) = (pcs xs).take k ++ [⟨xs[k].fr, k⟩] := by
  rw [take_snoc _ k (by rw [pcs_len]; exact h), pcs_at xs k h]
theorem take_ans (xs : List Spn) (k : Nat) (h : k < xs.length) : (xs.map ansOf).take (k + 1) = (xs.map ansOf).take k ++ [ansOf xs[k]] := by
  rw [take_snoc _ k (by rw [List.length_map]; exact h), List.getElem_map]
set_option maxRecDepth 100000 in
set_option maxHeartbeats 2000000 in
theorem forward_bad (v : Value) (xs : List Spn) (w : World) (hv : SlAt w 4 RSpn v xs) (hb : spnE xs ≠ 0) :
    Calls Try.prog 26 #[v] w fun e w' => e = .returned (.tuple #[.agg #[.slice none 0 0, .slice none 0 0], .int .i64 (spnE xs)]) ∧ Below w.heap.size w w' := by
  have HV := Lib.hid hv
  have bw : Below w.heap.size w (w.alloc (.cells #[.slice none 0 0, .slice none 0 0] 34)) := (Below.refl _ _).alloc (Nat.le_refl _) _
  have hs := size_alloc w (.cells #[.slice none 0 0, .slice none 0 0] 34)
  have b0 : ∀ j, (w.alloc (.cells #[.slice none 0 0, .slice none 0 0] 34)).cell? ⟨w.heap.size, j, none⟩ = _ := fun j => World.cell?_alloc_at (w := w) _ _ w.heap.size j rfl
  have g0 : ∀ j, (w.alloc (.cells #[.slice none 0 0, .slice none 0 0] 34)).frozen? ⟨w.heap.size, j, none⟩ = false := fun j => World.frozen?_alloc_at (w := w) _ _ w.heap.size j rfl
  obtain ⟨r, hr⟩ : ∃ r, r = spnE xs := ⟨_, rfl⟩
  have hne : (r != 0) = true := by rw [bne_iff_ne, hr]; exact hb
  rw [← hr]
  have HR := Lib.hid hr
  have HS := Lib.hid hs
  have HB0 := Lib.hid b0
  have HG0 := Lib.hid g0
  clear hv hb hr hs b0 g0
  go_enter Try.func26, Try.ntmps26
  go_wp2_with fail
  refine (checkSpans_any v xs _ (HV.out.mono bw fun _ _ h => h)).mono ?_; rintro e w1 ⟨rfl, hb1⟩
  have hlt : w.heap.size < (w.alloc (.cells #[.slice none 0 0, .slice none 0 0] 34)).heap.size := by rw [HS.out]; omega
  have q0 : w1.cell? ⟨w.heap.size, 0, none⟩ = some (.slice none 0 0) := (hb1.cell (p := ⟨w.heap.size, 0, none⟩) hlt).trans (HB0.out 0)
  have q1 : w1.cell? ⟨w.heap.size, 1, none⟩ = some (.slice none 0 0) := (hb1.cell (p := ⟨w.heap.size, 1, none⟩) hlt).trans (HB0.out 1)
  have f1 : ∀ j, w1.frozen? ⟨w.heap.size, j, none⟩ = false := fun j => (hb1.frozen (p := ⟨w.heap.size, j, none⟩) hlt).trans (HG0.out j)
  have hz : w.heap.size < w1.heap.size := Nat.lt_of_lt_of_le hlt hb1.size
  have hbw := bw.trans (hb1.mono (Nat.le_of_lt hlt))
  rw [← HR.out]
  clear hb1 HS HB0 HG0 hlt bw
  go_wp2
  exact bodyPost_ret (v := .tuple #[.agg #[.slice none 0 0, .slice none 0 0], .int .i64 r]) (by simp [results, Try.results26, go_sem, hz, q0, q1]) rfl ⟨rfl, (hbw.setCell (Nat.le_refl _) _).setCell (Nat.le_refl _) _⟩
end Go.Proofs.Ytpnmaopompfalaa
