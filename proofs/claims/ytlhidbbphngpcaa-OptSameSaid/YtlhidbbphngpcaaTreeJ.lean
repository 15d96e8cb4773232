/-
  tree.Eval.
-/
import Derived.Test.YtlhidbbphngpcaaLem
import Derived.Test.YtlhidbbphngpcaaTreeI
import Derived.Deep.RegionHeld3
namespace Go.Proofs.Ytlhidbbphngpcaa
set_option linter.unusedVariables false
set_option linter.unusedSimpArgs false
open Go.ChangeShapes Go.WideShapes Go.ChangeAt Go.RowKit

theorem frs_good {f : Frs} (h : frsE f = 0) : 0 < f.nodes.length ∧ f.nodes.length ≤ 8000 ∧ f.answers.length ≤ 2000 ∧ (∀ i (hi : i < f.answers.length), ansE f.answers[i] = 0) ∧ (∀ i (hi : i < f.nodes.length), nodE f.answers.length (i : Nat) f.nodes[i] = 0) := by
  unfold frsE at h
  by_cases h0 : f.nodes.length = 0
  · rw [if_pos h0] at h; omega
  · rw [if_neg h0] at h
    by_cases h1 : 8000 < f.nodes.length ∨ 2000 < f.answers.length
    · rw [if_pos h1] at h; omega
    · rw [if_neg h1] at h
      by_cases h2 : anssE f.answers = 0
      · rw [if_neg (by simpa using h2)] at h
        refine ⟨by omega, by omega, by omega, fun i hi => ?_, fun i hi => ?_⟩
        · have := ferr_all _ _ _ h2 i hi; exact this
        · have := ferr_all _ _ _ h i hi; simpa using this
      · rw [if_pos h2] at h; exact absurd h h2
/-- a world in which the two boxes of Eval stand: the forest's and the result's. -/
structure EvAt (w w1 : World) (vn va : Value) : Prop where
  q0 : w1.cell? ⟨w.heap.size, 0, none⟩ = some vn
  q1 : w1.cell? ⟨w.heap.size, 1, none⟩ = some va
  r0 : w1.cell? ⟨w.heap.size + 1, 0, none⟩ = some (.int .i64 0)
  r1 : w1.cell? ⟨w.heap.size + 1, 1, none⟩ = some (.bool false)
  r2 : w1.cell? ⟨w.heap.size + 1, 2, none⟩ = some (.string ⟨#[]⟩)
  r3 : w1.cell? ⟨w.heap.size + 1, 3, none⟩ = some (.slice none 0 0)
  r4 : w1.cell? ⟨w.heap.size + 1, 4, none⟩ = some (.int .i64 0)
  f1 : ∀ j, w1.frozen? ⟨w.heap.size + 1, j, none⟩ = false
  hz : w.heap.size + 1 < w1.heap.size
  hb : Below w.heap.size w w1
theorem EvAt.new (w : World) (vn va : Value) : EvAt w ((w.alloc (.cells #[vn, va] 26)).alloc (.cells #[.int .i64 0, .bool false, .string ⟨#[]⟩, .slice none 0 0, .int .i64 0] 39)) vn va := by
  obtain ⟨hs, b0, b1, g0, g1⟩ := two_new w #[vn, va] #[.int .i64 0, .bool false, .string ⟨#[]⟩, .slice none 0 0, .int .i64 0] 26 39
  exact ⟨b0 0, b0 1, b1 0, b1 1, b1 2, b1 3, b1 4, g1, by omega, ((Below.refl _ _).alloc (Nat.le_refl _) _).alloc (size_le_push_ w _) _⟩
theorem EvAt.below {w w1 w2 : World} {vn va : Value} (h : EvAt w w1 vn va) (g : Below w1.heap.size w1 w2) : EvAt w w2 vn va := by
  obtain ⟨hc, hf⟩ := bcell g
  have hz := h.hz
  have hz0 : w.heap.size < w1.heap.size := by omega
  exact ⟨(hc _ _ hz0).trans h.q0, (hc _ _ hz0).trans h.q1, (hc _ _ hz).trans h.r0, (hc _ _ hz).trans h.r1, (hc _ _ hz).trans h.r2, (hc _ _ hz).trans h.r3, (hc _ _ hz).trans h.r4, fun j => (hf _ _ hz).trans (h.f1 j), Nat.lt_of_lt_of_le hz g.size, h.hb.trans (g.mono h.hb.size)⟩
set_option maxHeartbeats 2000000 in
theorem eval_bad (f : Frs) (vn va : Value) (t : Int) (w : World) (hf : FrsAt w vn va f) (hb : frsE f ≠ 0) :
    Calls Try.prog 20 #[.agg #[vn, va], .int .i64 t] w fun e w' => e = .returned (.tuple #[.agg #[.int .i64 0, .bool false, .string ⟨#[]⟩, .slice none 0 0, .int .i64 0], .int .i64 (frsE f)]) ∧ Below w.heap.size w w' := by
  have HF := Lib.hid hf
  obtain ⟨r, hr⟩ : ∃ r, r = frsE f := ⟨_, rfl⟩
  have hne : (r != 0) = true := by rw [bne_iff_ne, hr]; exact hb
  have E := EvAt.new w vn va
  rw [← hr]
  have HR := Lib.hid hr
  clear hf hb hr
  go_enter Try.func20, Try.ntmps20
  go_wp2_with fail
  refine (check_any f vn va _ (HF.out.mono E.hb)).mono ?_; rintro e w1 ⟨rfl, hb1⟩
  have E1 := E.below hb1
  obtain ⟨q0, q1, r0, r1, r2, r3, r4, f1, hz, hbw⟩ := E1
  rw [← HR.out]
  clear E hb1
  go_wp2
  exact bodyPost_ret (v := .tuple #[.agg #[.int .i64 0, .bool false, .string ⟨#[]⟩, .slice none 0 0, .int .i64 0], .int .i64 r]) (by simp [results, Try.results20, go_sem, hz, r0, r1, r2, r3, r4]) rfl ⟨rfl, five_below hbw (by omega) _ _ _ _ _⟩
set_option maxHeartbeats 2000000 in
theorem evalOf_bad (f : Frs) (vn va : Value) (t : Int) (w : World) (hf : FrsAt w vn va f) (hb : frsE f ≠ 0) :
    Calls Try.prog 15 #[.agg #[vn, va], .int .i64 t] w fun e w' => e = .returned (.tuple #[.agg #[.int .i64 0, .bool false, .string ⟨#[]⟩, .slice none 0 0, .int .i64 0], .int .i64 (frsE f)]) ∧ Below w.heap.size w w' := by
  have HF := Lib.hid hf
  obtain ⟨r, hr⟩ : ∃ r, r = frsE f := ⟨_, rfl⟩
  have hne : (r != 0) = true := by rw [bne_iff_ne, hr]; exact hb
  have E := EvAt.new w vn va
  rw [← hr]
  have HR := Lib.hid hr
  clear hf hb hr
  go_enter Try.func15, Try.ntmps15
  go_wp2_with fail
  refine (fault_any f vn va _ (HF.out.mono E.hb)).mono ?_; rintro e w1 ⟨rfl, hb1⟩
  have E1 := E.below hb1
  obtain ⟨q0, q1, r0, r1, r2, r3, r4, f1, hz, hbw⟩ := E1
  rw [← HR.out]
  clear E hb1
  go_wp2
  exact bodyPost_ret (v := .tuple #[.agg #[.int .i64 0, .bool false, .string ⟨#[]⟩, .slice none 0 0, .int .i64 0], .int .i64 r]) (by simp [results, Try.results15, go_sem, hz, r0, r1, r2, r3, r4]) rfl ⟨rfl, five_below hbw (by omega) _ _ _ _ _⟩
end Go.Proofs.Ytlhidbbphngpcaa
