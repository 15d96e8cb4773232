/-
  The law of code.Run.
-/
import Derived.Test.YtpnmaopompfalaaCodN
import Derived.Test.YtpnmaopompfalaaTreeL
namespace Go.Proofs.Ytpnmaopompfalaa
set_option linter.unusedVariables false
set_option linter.unusedSimpArgs false
open Go.ChangeShapes Go.WideShapes Go.ChangeAt Go.RowKit

/-- the one answer that both runs tell. -/
theorem runs_ex (p : Prg) (t : Int) : ∃ (A : Ans) (k c : Int), A.ck.nm.size ≤ maxLen ∧
    (∀ (vc vp va : Value) (w : World), PrgAt w vc vp va p → Calls Try.prog 49 #[.agg #[vc, vp, va], .int .i64 t] w fun e w' => ∃ v', e = .returned (.tuple #[.agg #[.int .i64 A.ck.off, .bool A.ck.sav, .string A.ck.nm, v', .int .i64 A.jump], .int .i64 k, .int .i64 c]) ∧ SlAt w' 1 RInt v' A.offs ∧ Below w.heap.size w w') ∧
    (∀ (vc vp va : Value) (w : World), PrgAt w vc vp va p → Calls Try.prog 44 #[.agg #[vc, vp, va], .int .i64 t] w fun e w' => ∃ v', e = .returned (.tuple #[.agg #[.int .i64 A.ck.off, .bool A.ck.sav, .string A.ck.nm, v', .int .i64 A.jump], .int .i64 k, .int .i64 c]) ∧ SlAt w' 1 RInt v' A.offs ∧ Below w.heap.size w w') := by
  obtain ⟨x0, y0, c, h⟩ : ∃ a b c, verE p = (a, b, c) := ⟨_, _, _, rfl⟩
  by_cases hc : c = 0
  · subst hc
    obtain ⟨i, k, hR, hi, hk0, hk8⟩ := run_of t h
    obtain ⟨hg, _⟩ := ver_zero h
    obtain ⟨g0, g1, g2, g3, g4, g5⟩ := prg_good hg
    have hm := List.getElem_mem hi
    have hs := (ansE_offs (g4 i hi)).2
    have h64 : ∀ {w : World} {vc vp va : Value}, PrgAt w vc vp va p → ∀ x ∈ p.answers[i].offs, I64 x := fun hf x hx => by
      obtain ⟨cs, vo, _, hv, _⟩ := hf.2.2.all _ hm
      exact ints64 hv x hx
    refine ⟨p.answers[i], k, 0, by unfold maxLen; omega, fun vc vp va w hp => (run_ok p vc vp va t w hp h hi ⟨hk0, hk8⟩ hR).mono ?_, fun vc vp va w hp => (ranOf_ok p vc vp va t w hp h hi ⟨hk0, hk8⟩ hR).mono ?_⟩
    · rintro e w' ⟨v', he, ho, hb⟩
      exact ⟨v', he, ints_of_own (h64 hp) ho, hb⟩
    · rintro e w' ⟨v', he, ho, hb⟩
      exact ⟨v', he, ints_of_own (h64 hp) ho, hb⟩
  · refine ⟨⟨⟨0, false, ⟨#[]⟩⟩, [], 0⟩, 0, c, Nat.zero_le _, fun vc vp va w hp => (run_bad p vc vp va t w hp h hc).mono ?_, fun vc vp va w hp => (ranOf_bad p vc vp va t w hp h hc).mono ?_⟩
    · rintro e w' ⟨he, hb⟩
      exact ⟨_, he, SlAt_nil _, hb⟩
    · rintro e w' ⟨he, hb⟩
      exact ⟨_, he, SlAt_nil _, hb⟩
theorem PrgAt.up {w w' : World} {vc vp va : Value} {p : Prg} (h : PrgAt w vc vp va p) (hb : Below w.heap.size w w') : PrgAt w' vc vp va p := h.mono hb
set_option maxHeartbeats 2000000 in
theorem walkCodeRuns (vc vp va : Value) (p : Prg) (n : Int) (w : World) (hp : PrgAt w vc vp va p) (hn : I64 n) :
    Calls Try.prog 14 #[.agg #[vc, vp, va], .int .i64 n] w fun e w' => e = .returned (.bool true) ∧ Below w.heap.size w w' := by
  have HP := Lib.hid hp
  have HN := Lib.hid hn
  clear hp hn
  have bw : Below w.heap.size w (w.alloc (.cells #[vc, vp, va] 58)) := (Below.refl _ _).alloc (Nat.le_refl _) _
  have bz : w.heap.size < (w.alloc (.cells #[vc, vp, va] 58)).heap.size := by rw [size_alloc]; omega
  have b0 : ∀ j, (w.alloc (.cells #[vc, vp, va] 58)).cell? ⟨w.heap.size, j, none⟩ = _ := fun j => World.cell?_alloc_at (w := w) _ _ w.heap.size j rfl
  have q0 := b0 0
  have q1 := b0 1
  have q2 := b0 2
  clear b0
  go_enter Try.func14, Try.ntmps14
  go_wp2_with fail
  refine (asked_any vp p.pool n _ (HP.out.2.1.mono bw fun _ _ h => h) HN.out).mono ?_; rintro e w' ⟨t, h64, rfl, rfl⟩
  obtain ⟨A, k, c, hA, hE, hO⟩ := runs_ex p t
  have HE := Lib.hid hE
  have HO := Lib.hid hO
  have H6 := Lib.hid h64
  have HA := Lib.hid hA
  clear hE hO h64 hA
  go_wp2_with fail
  refine (HE.out _ _ _ _ (HP.out.mono bw)).mono ?_; rintro e w2 ⟨v2, rfl, hs2, hb2⟩
  obtain ⟨a2, c2, rfl, _⟩ := hs2.shape
  have HS2 := Lib.hid hs2
  have hz2 := Nat.lt_of_lt_of_le bz hb2.size
  have p0 := (hb2.cell (p := ⟨w.heap.size, 0, none⟩) bz).trans q0
  have p1 := (hb2.cell (p := ⟨w.heap.size, 1, none⟩) bz).trans q1
  have p2 := (hb2.cell (p := ⟨w.heap.size, 2, none⟩) bz).trans q2
  have hw2 := bw.trans (hb2.mono bw.size)
  clear hs2 hb2 q0 q1 q2 bz bw
  go_wp2_with fail
  have bx := (Below.refl w2.heap.size w2).alloc (Nat.le_refl _) (.cells #[.int .i64 A.ck.off, .bool A.ck.sav, .string A.ck.nm, .slice a2 A.offs.length c2, .int .i64 A.jump] 27)
  have hw3 := hw2.trans (bx.mono hw2.size)
  refine (HO.out _ _ _ _ (HP.out.mono hw3)).mono ?_; rintro e w3 ⟨v3, rfl, hs3, hb3⟩
  obtain ⟨a3, c3, rfl, _⟩ := hs3.shape
  have hxz : w2.heap.size < (w2.alloc (.cells #[.int .i64 A.ck.off, .bool A.ck.sav, .string A.ck.nm, .slice a2 A.offs.length c2, .int .i64 A.jump] 27)).heap.size := by rw [size_alloc]; omega
  have bj : ∀ j, (w2.alloc (.cells #[.int .i64 A.ck.off, .bool A.ck.sav, .string A.ck.nm, .slice a2 A.offs.length c2, .int .i64 A.jump] 27)).cell? ⟨w2.heap.size, j, none⟩ = _ := fun j => World.cell?_alloc_at (w := w2) _ _ w2.heap.size j rfl
  have j0 : w3.cell? ⟨w2.heap.size, 0, none⟩ = some (.int .i64 A.ck.off) := (hb3.cell (p := ⟨w2.heap.size, 0, none⟩) hxz).trans (bj 0)
  have j1 : w3.cell? ⟨w2.heap.size, 1, none⟩ = some (.bool A.ck.sav) := (hb3.cell (p := ⟨w2.heap.size, 1, none⟩) hxz).trans (bj 1)
  have j2 : w3.cell? ⟨w2.heap.size, 2, none⟩ = some (.string A.ck.nm) := (hb3.cell (p := ⟨w2.heap.size, 2, none⟩) hxz).trans (bj 2)
  have j3 : w3.cell? ⟨w2.heap.size, 3, none⟩ = some (.slice a2 A.offs.length c2) := (hb3.cell (p := ⟨w2.heap.size, 3, none⟩) hxz).trans (bj 3)
  have j4 : w3.cell? ⟨w2.heap.size, 4, none⟩ = some (.int .i64 A.jump) := (hb3.cell (p := ⟨w2.heap.size, 4, none⟩) hxz).trans (bj 4)
  have jz : w2.heap.size < w3.heap.size := Nat.lt_of_lt_of_le hxz hb3.size
  have hw4 := hw3.trans (hb3.mono hw3.size)
  have HS3 := Lib.hid hs3
  have HS2' := Lib.hid ((HS2.out.mono bx fun _ _ h => h).mono hb3 fun _ _ h => h)
  clear bj hxz hs3 HS2 hb3 bx hw3 HE HO
  have by3 := (Below.refl w3.heap.size w3).alloc (Nat.le_refl _) (.cells #[.int .i64 A.ck.off, .bool A.ck.sav, .string A.ck.nm, .slice a3 A.offs.length c3, .int .i64 A.jump] 27)
  go_wp2_with fail
  refine (sameAnswer_same A _ _ _ (HS2'.out.mono by3 fun _ _ h => h) (HS3.out.mono by3 fun _ _ h => h) HA.out).mono ?_; rintro e w5 ⟨rfl, hb5⟩
  have hw5 := (hw4.trans (by3.mono hw4.size)).trans (hb5.mono (Nat.le_trans hw4.size by3.size))
  go_wp2
  go_ret
  exact ⟨rfl, hw5⟩
end Go.Proofs.Ytpnmaopompfalaa
