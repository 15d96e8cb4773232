/-
  The law: what may not be run is refused.
-/
import Derived.Test.YtpnmaopompfalaaCodP
namespace Go.Proofs.Ytpnmaopompfalaa
set_option linter.unusedVariables false
set_option linter.unusedSimpArgs false
open Go.ChangeShapes Go.WideShapes Go.ChangeAt Go.RowKit

set_option maxRecDepth 100000 in
set_option maxHeartbeats 4000000 in
theorem walkCodeBad (n : Int) (w : World) (hn : I64 n) :
    Calls Try.prog 15 #[.int .i64 n] w fun e w' => e = .returned (.bool true) ∧ Below w.heap.size w w' := by
  obtain ⟨k, hk, hkk⟩ : ∃ k : Nat, k < 9 ∧ pkv n 9 = k := by
    obtain ⟨p1, p2⟩ := pkv_bd n 9 (by omega)
    exact ⟨(pkv n 9).toNat, by omega, by omega⟩
  obtain ⟨hv, hne⟩ := bd_ver k hk
  obtain ⟨c0, c1, c2, c3⟩ := bd_cells w k hk
  have HAt := Lib.hid (bd_at w k hk)
  have hB := laysW_below (bdL w.heap.size) w
  have hs : (laysW w (bdL w.heap.size)).heap.size = w.heap.size + 11 := laysW_size _ _
  have HV := Lib.hid hv
  have HNE := Lib.hid hne
  have HKK := Lib.hid hkk
  have HN := Lib.hid hn
  have hk9 : (k : Int) < 9 := by omega
  clear hv hne hkk hn
  go_enter Try.func15, Try.ntmps15
  go_wp2_with fail
  change Calls _ _ _ (laysW w (bdL w.heap.size)) _
  refine (picked_v n 9 _ HN.out (by omega) (by omega)).mono ?_; rintro e w' ⟨rfl, rfl⟩
  rw [HKK.out]
  have d0 : (laysW w (bdL w.heap.size)).cell? ⟨w.heap.size + 1 + 1 + 1 + 1 + 1 + 1 + 1 + 1 + 1, k * 3, none⟩ = _ := c0
  have d1 : (laysW w (bdL w.heap.size)).cell? ⟨w.heap.size + 1 + 1 + 1 + 1 + 1 + 1 + 1 + 1 + 1, k * 3 + 1, none⟩ = _ := c1
  have d2 : (laysW w (bdL w.heap.size)).cell? ⟨w.heap.size + 1 + 1 + 1 + 1 + 1 + 1 + 1 + 1 + 1, k * 3 + 2, none⟩ = _ := c2
  have d3 : (laysW w (bdL w.heap.size)).cell? ⟨w.heap.size + 1 + 1 + 1 + 1 + 1 + 1 + 1 + 1 + 1 + 1, k, none⟩ = _ := c3
  have hz9 : w.heap.size + 1 + 1 + 1 + 1 + 1 + 1 + 1 + 1 + 1 < (laysW w (bdL w.heap.size)).heap.size := by omega
  have hzA : w.heap.size + 1 + 1 + 1 + 1 + 1 + 1 + 1 + 1 + 1 + 1 < (laysW w (bdL w.heap.size)).heap.size := by omega
  clear c0 c1 c2 c3 hs
  generalize laysW w (bdL w.heap.size) = W at *
  generalize bdC w.heap.size k = vc at *
  generalize bdV w.heap.size k = va at *
  obtain ⟨e, he⟩ : ∃ e, e = bdE k := ⟨_, rfl⟩
  rw [← he] at d3 HV HNE
  generalize w.heap.size + 1 + 1 + 1 + 1 + 1 + 1 + 1 + 1 + 1 = B9 at *
  go_wp2_with fail
  refine (verify_any (bdP k) vc _ va _ HAt.out HV.out).mono ?_; rintro e' w1 ⟨rfl, hb1⟩
  have e0 := (hb1.cell (p := ⟨B9, k * 3, none⟩) hz9).trans d0
  have e1 := (hb1.cell (p := ⟨B9, k * 3 + 1, none⟩) hz9).trans d1
  have e2 := (hb1.cell (p := ⟨B9, k * 3 + 2, none⟩) hz9).trans d2
  have e3 := (hb1.cell (p := ⟨B9 + 1, k, none⟩) hzA).trans d3
  have y9 := Nat.lt_of_lt_of_le hz9 hb1.size
  have yA := Nat.lt_of_lt_of_le hzA hb1.size
  have HA1 := Lib.hid (HAt.out.mono hb1)
  have hB1 := hB.trans (hb1.mono hB.size)
  clear d0 d1 d2 d3 hz9 hzA hb1 HAt hB
  go_wp2_with fail
  refine (run_bad (bdP k) vc _ va _ _ HA1.out HV.out HNE.out).mono ?_; rintro e' w2 ⟨rfl, hb2⟩
  have bx : Below w2.heap.size w2 (w2.alloc (.cells #[.int .i64 0, .bool false, .string ⟨#[]⟩, .slice none 0 0, .int .i64 0] 27)) := (Below.refl _ _).alloc (Nat.le_refl _) _
  have f0 := (hb2.cell (p := ⟨B9, k * 3, none⟩) y9).trans e0
  have f1 := (hb2.cell (p := ⟨B9, k * 3 + 1, none⟩) y9).trans e1
  have f2 := (hb2.cell (p := ⟨B9, k * 3 + 2, none⟩) y9).trans e2
  have f3 := (hb2.cell (p := ⟨B9 + 1, k, none⟩) yA).trans e3
  have z9 := Nat.lt_of_lt_of_le y9 hb2.size
  have zA := Nat.lt_of_lt_of_le yA hb2.size
  have HA2 := Lib.hid ((HA1.out.mono hb2).mono bx)
  have hB2 := (hB1.trans (hb2.mono hB1.size)).trans (bx.mono (Nat.le_trans hB1.size hb2.size))
  have g3 := (bx.cell (p := ⟨B9 + 1, k, none⟩) zA).trans f3
  have gA := Nat.lt_of_lt_of_le zA bx.size
  clear e0 e1 e2 e3 y9 yA hb2 HA1 hB1
  go_wp2_with fail
  refine (encode_bad (bdP k) vc _ va _ HA2.out HV.out HNE.out).mono ?_; rintro e' w3 ⟨rfl, hb3⟩
  have h3 := (hb3.cell (p := ⟨B9 + 1, k, none⟩) gA).trans g3
  have hB3 := hB2.trans (hb3.mono hB2.size)
  clear f0 f1 f2 f3 g3 gA HA2 hB2 hb3
  go_wp2
  go_ret
  exact ⟨ret_bool (by simp), hB3⟩
end Go.Proofs.Ytpnmaopompfalaa
