/-
  sameProgram of two readings of one program.
-/
import Derived.Test.YtpnmaopompfalaaCodJ
import Derived.Test.YtpnmaopompfalaaTreeD
import Derived.StillTailTactics
namespace Go.Proofs.Ytpnmaopompfalaa
set_option linter.unusedVariables false
set_option linter.unusedSimpArgs false
open Go.ChangeShapes Go.WideShapes Go.ChangeAt Go.RowKit

theorem SlAt.drewN {α : Type} {w : World} {sz : Nat} {R : List Value → α → Prop} {v : Value} {xs : List α} (h : SlAt w sz R v xs) (q : Nat) : SlAt (w.drewN q) sz R v xs := h
set_option maxHeartbeats 1000000 in
theorem sameCode_same (v u : Value) (xs : List Ins) (w : World) (hv : SlAt w 2 RIns v xs) (hu : SlAt w 2 RIns u xs) :
    Calls Try.prog 101 #[v, u] w fun e w' => e = .returned (.bool true) ∧ ∃ q, w' = w.drewN q := by
  obtain ⟨av, cv, rfl, lv⟩ := hv.shape
  obtain ⟨au, cu, rfl, lu⟩ := hu.shape
  have HV := Lib.hid hv
  have HU := Lib.hid hu
  have hm := maxLen_eq _ lv
  clear hv hu lv lu
  go_enter Try.func101, Try.ntmps101
  go_wp2
  go_loopw [5] (fun i wr => ∃ k q : Nat, k ≤ xs.length ∧ i = .int .i64 k ∧ wr = w.drewN q) (fun i _ => (xs.length - intOf i).toNat)
  case atStart => exact ⟨0, 0, Nat.zero_le _, rfl, rfl⟩
  case round =>
    obtain ⟨k, q, hk, rfl, rfl⟩ := hrel
    by_cases hlt : k < xs.length
    · obtain ⟨b, off, rfl, hb, ⟨c0, c1⟩, _, _⟩ := elemIns HV.out k hlt
      obtain ⟨b2, off2, rfl, hb2, ⟨d0, d1⟩, _, _⟩ := elemIns HU.out k hlt
      generalize xs[k] = x at *
      have hlti : (k : Int) < (xs.length : Int) := by omega
      go_wp2
      go_quiet (fail)
      go_wp2
      go_roundw
      case rel => exact ⟨k + 1, _, by omega, by go_num, rfl⟩
      case measure => simp [intOf]; omega
    · go_wp2
      go_ret
      exact ⟨rfl, q, rfl⟩
set_option maxRecDepth 100000 in
set_option maxHeartbeats 4000000 in
theorem sameProgram_same (p : Prg) (vc vp va uc up ua : Value) (w : World) (hv : PrgAt w vc vp va p) (hu : PrgAt w uc up ua p) :
    Calls Try.prog 52 #[.agg #[vc, vp, va], .agg #[uc, up, ua]] w fun e w' => e = .returned (.bool true) ∧ Below w.heap.size w w' := by
  obtain ⟨a1, n1, rfl, l1⟩ := hv.2.2.shape
  have hm := maxLen_eq _ l1
  clear l1
  obtain ⟨a2, n2, rfl, _⟩ := hu.2.2.shape
  obtain ⟨hs, d0, d1, g0, g1⟩ := two_new w #[vc, vp, .slice a1 p.answers.length n1] #[uc, up, .slice a2 p.answers.length n2] 58 58
  have bw : Below w.heap.size w ((w.alloc (.cells #[vc, vp, .slice a1 p.answers.length n1] 58)).alloc (.cells #[uc, up, .slice a2 p.answers.length n2] 58)) := ((Below.refl _ _).alloc (Nat.le_refl _) _).alloc (size_le_push_ w _) _
  obtain ⟨W, hW⟩ : ∃ W, W = (w.alloc (.cells #[vc, vp, .slice a1 p.answers.length n1] 58)).alloc (.cells #[uc, up, .slice a2 p.answers.length n2] 58) := ⟨_, rfl⟩
  rw [← hW] at hs d0 d1 g0 g1 bw
  have e0 : W.cell? ⟨w.heap.size, 0, none⟩ = some vc := d0 0
  have e1 : W.cell? ⟨w.heap.size, 1, none⟩ = some vp := d0 1
  have e2 : W.cell? ⟨w.heap.size, 2, none⟩ = some (.slice a1 p.answers.length n1) := d0 2
  have e3 : W.cell? ⟨w.heap.size + 1, 0, none⟩ = some uc := d1 0
  have e4 : W.cell? ⟨w.heap.size + 1, 1, none⟩ = some up := d1 1
  have e5 : W.cell? ⟨w.heap.size + 1, 2, none⟩ = some (.slice a2 p.answers.length n2) := d1 2
  have z0 : w.heap.size < W.heap.size := by omega
  have z1 : w.heap.size + 1 < W.heap.size := by omega
  have HV := Lib.hid (hv.mono bw)
  have HU := Lib.hid (hu.mono bw)
  have HW := Lib.hid hW
  have BW := Lib.hid bw
  have E2 := Lib.hid e2
  have E5 := Lib.hid e5
  have Z := Lib.hid z1
  clear hv hu hs d0 d1 g0 g1 hW bw
  go_enter Try.func52, Try.ntmps52
  go_upto_region 1 with fail
  rw [← HW.out]
  go_wp2_with (first | (go_at_call 101; refine (sameCode_same _ _ p.code _ HV.out.1 HU.out.1).mono ?_; rintro e w' ⟨rfl, qa, rfl⟩) | (go_at_call 72; refine (sameInts_same _ _ p.pool _ (SlAt.drewN HV.out.2.1 _) (SlAt.drewN HU.out.2.1 _)).mono ?_; rintro e w' ⟨rfl, qb, rfl⟩))
  clear e0 e1 e2 e3 e4 e5 z0 z1
  go_loopw [5] (fun i wr => ∃ k : Nat, k ≤ p.answers.length ∧ i = .int .i64 k ∧ Hid (Below W.heap.size W wr)) (fun i _ => (p.answers.length - intOf i).toNat)
  case atStart => exact ⟨0, Nat.zero_le _, rfl, Lib.hid (below_draws (Below.refl _ _) _)⟩
  case round =>
    obtain ⟨k, hk, rfl, hbw⟩ := hrel
    have z1 := Nat.lt_of_lt_of_le Z.out hbw.out.size
    have z0 : w.heap.size < wr.heap.size := by omega
    have e2 := (hbw.out.cell (p := ⟨w.heap.size, 2, none⟩) (by have := Z.out; show w.heap.size < _; omega)).trans E2.out
    have e5 := (hbw.out.cell (p := ⟨w.heap.size + 1, 2, none⟩) Z.out).trans E5.out
    by_cases hlt : k < p.answers.length
    · obtain ⟨b, off, vo, rfl, hb, ⟨c0, c1, c2, c3, c4⟩, so, hnm, _, _⟩ := elemAns (HV.out.mono hbw.out).2.2 k hlt
      obtain ⟨b2, off2, uo, rfl, hb2, ⟨d0, d1, d2, d3, d4⟩, so2, _, _, _⟩ := elemAns (HU.out.mono hbw.out).2.2 k hlt
      generalize p.answers[k] = x at *
      obtain ⟨⟨xo, xs, xn⟩, offs, xj⟩ := x
      dsimp only at c0 c1 c2 c3 c4 so hnm d0 d1 d2 d3 d4 so2
      have hlti : (k : Int) < (p.answers.length : Int) := by omega
      have SO := Lib.hid so
      have SO2 := Lib.hid so2
      have HN := Lib.hid hnm
      have hw := hbw.out
      clear so so2 hnm
      go_wp2
      go_still_tail 10, (by kernel_rfl)
      change wpList _ _ _ _ _ wr.drew
      go_wp2_with fail
      refine (sameAnswer_same ⟨⟨xo, xs, xn⟩, offs, xj⟩ vo uo wr.drew (show SlAt wr.drew 1 RInt vo offs from SO.out) (show SlAt wr.drew 1 RInt uo offs from SO2.out) HN.out).mono ?_; rintro e w5 ⟨rfl, hb5⟩
      have HB5 : Hid (Below W.heap.size W w5) := hw.drew.trans (hb5.mono hw.size)
      clear hb5 hw
      go_wp2
      go_roundw
      case rel => exact ⟨k + 1, by omega, by go_num, HB5⟩
      case measure => simp [intOf]; omega
    · go_wp2
      go_ret
      exact ⟨rfl, BW.out.trans (hbw.out.mono BW.out.size)⟩
end Go.Proofs.Ytpnmaopompfalaa
