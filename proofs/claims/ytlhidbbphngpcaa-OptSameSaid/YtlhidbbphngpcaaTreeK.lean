/-
  tree.Eval of a forest that may be.
-/
import Derived.Test.YtlhidbbphngpcaaTreeJ
import Derived.IntWalk
namespace Go.Proofs.Ytlhidbbphngpcaa
set_option linter.unusedVariables false
set_option linter.unusedSimpArgs false
open Go.ChangeShapes Go.WideShapes Go.ChangeAt Go.RowKit

theorem EvAt.drew {w w1 : World} {vn va : Value} (h : EvAt w w1 vn va) : EvAt w w1.drew vn va :=
  ⟨h.q0, h.q1, h.r0, h.r1, h.r2, h.r3, h.r4, h.f1, h.hz, h.hb.drew⟩
set_option maxHeartbeats 4000000 in
theorem eval_ok (f : Frs) (vn va : Value) (t : Int) (i : Nat) (w : World) (hf : FrsAt w vn va f) (h0 : frsE f = 0) (hL : Lf f.nodes t (f.nodes.length - 1) i) (hi : i < f.answers.length) :
    Calls Try.prog 20 #[.agg #[vn, va], .int .i64 t] w fun e w' => ∃ v', e = .returned (.tuple #[.agg #[.int .i64 f.answers[i].ck.off, .bool f.answers[i].ck.sav, .string f.answers[i].ck.nm, v', .int .i64 f.answers[i].jump], .int .i64 0]) ∧ w'.ownsRow w.heap.size 3 1 v' f.answers[i].offs.length (f.answers[i].offs.flatMap encI) ∧ Below w.heap.size w w' := by
  obtain ⟨g0, g1, g2, g3, g4⟩ := frs_good h0
  have go := ansE_offs (g3 i hi)
  have hr : f.answers[i].offs.length * 8 ≤ 140737488355328 := by omega
  have hlen : f.nodes.length - 1 + 1 = f.nodes.length := by omega
  obtain ⟨aa, ca, rfl, la⟩ := hf.2.shape
  obtain ⟨b, off, vo, rfl, hbb, ⟨c0, c1, c2, c3, c4⟩, hvo, hnm, _, _⟩ := elemAns hf.2 i hi
  obtain ⟨ao, co, rfl, lo⟩ := hvo.shape
  have la' := maxLen_eq _ la
  have HF := Lib.hid hf
  have HV := Lib.hid hvo
  have HL := Lib.hid hL
  have HK := Lib.hid g4
  have H0 := Lib.hid h0
  have HN := Lib.hid hlen
  have HRr := Lib.hid hr
  have E := EvAt.new w vn (.slice (some ⟨b, off, none⟩) f.answers.length ca)
  have hii : (i : Int) < (f.answers.length : Int) := by omega
  have hin : (0 : Int) ≤ (i : Int) := by omega
  clear hf hvo hL g0 g1 g2 g3 g4 go h0 hlen lo hr la
  generalize f.answers[i] = x at *
  go_enter Try.func20, Try.ntmps20
  go_wp2_with fail
  refine (check_any f _ _ _ (HF.out.mono E.hb)).mono ?_; rintro e w1 ⟨rfl, hb1⟩
  have E1 := E.below hb1
  rw [H0.out]
  clear E hb1
  have E1d := E1.drew
  obtain ⟨q0, q1, r0, r1, r2, r3, r4, f1, hz, hbw⟩ := E1
  obtain ⟨hc, hf⟩ := bcell hbw
  have d0 := (hc _ (off + i * 5) hbb).trans c0
  have d1 := (hc _ (off + i * 5 + 1) hbb).trans c1
  have d2 := (hc _ (off + i * 5 + 2) hbb).trans c2
  have d3 := (hc _ (off + i * 5 + 3) hbb).trans c3
  have d4 := (hc _ (off + i * 5 + 4) hbb).trans c4
  clear c0 c1 c2 c3 c4 hc hf
  have hne1 : ¬ b = w.heap.size + 1 := by omega
  have hne2 : ¬ w.heap.size + 1 = b := by omega
  go_wp2
  go_region_held3 (fun w' => w'.cell? ⟨w.heap.size, 0, none⟩ = some vn ∧ w'.cell? ⟨w.heap.size, 1, none⟩ = some (.slice (some ⟨b, off, none⟩) f.answers.length ca) ∧ w'.cell? ⟨b, off + i * 5, none⟩ = some (.int .i64 x.ck.off) ∧ w'.cell? ⟨b, off + i * 5 + 1, none⟩ = some (.bool x.ck.sav) ∧ w'.cell? ⟨b, off + i * 5 + 2, none⟩ = some (.string x.ck.nm) ∧ w'.cell? ⟨b, off + i * 5 + 3, none⟩ = some (.slice ao x.offs.length co) ∧ w'.cell? ⟨b, off + i * 5 + 4, none⟩ = some (.int .i64 x.jump))
    (first | (with_reducible exact ⟨q0, q1, d0, d1, d2, d3, d4⟩) | (with_reducible exact ⟨s0, s1, k0, k1, k2, k3, k4⟩) | (with_reducible exact ⟨S0, S1, K0, K1, K2, K3, K4⟩) | go_keep)
    (first | (go_at_call 49; refine (leaf_any f _ _ t (f.nodes.length - 1) i _ HK.out HN.out HL.out _ (HF.out.mono hbw.drew)).mono ?_; rintro e w5 ⟨rfl, hb5⟩; have s0 := (hb5.cell (p := ⟨w.heap.size, 0, none⟩) (show w.heap.size < w1.heap.size by omega)).trans q0; have s1 := (hb5.cell (p := ⟨w.heap.size, 1, none⟩) (show w.heap.size < w1.heap.size by omega)).trans q1; have hbz : b < w1.heap.size := (by omega); have k0 := (hb5.cell (p := ⟨b, off + i * 5, none⟩) hbz).trans d0; have k1 := (hb5.cell (p := ⟨b, off + i * 5 + 1, none⟩) hbz).trans d1; have k2 := (hb5.cell (p := ⟨b, off + i * 5 + 2, none⟩) hbz).trans d2; have k3 := (hb5.cell (p := ⟨b, off + i * 5 + 3, none⟩) hbz).trans d3; have k4 := (hb5.cell (p := ⟨b, off + i * 5 + 4, none⟩) hbz).trans d4; have E5 := E1d.below hb5; clear hb5 q0 q1 r0 r1 r2 r3 r4 f1 d0 d1 d2 d3 d4) | (go_at_call 48; refine (clone_any x _ _ (HV.out.mono E5.hb fun _ _ h => h) HRr.out).mono ?_; rintro e w6 ⟨v', rfl, hown, hb6⟩; have S0 := (hb6.cell (p := ⟨w.heap.size, 0, none⟩) (show w.heap.size < w5.heap.size by have := E5.hz; omega)).trans s0; have S1 := (hb6.cell (p := ⟨w.heap.size, 1, none⟩) (show w.heap.size < w5.heap.size by have := E5.hz; omega)).trans s1; have hbz5 : b < w5.heap.size := (by have := E5.hb.size; omega); have K0 := (hb6.cell (p := ⟨b, off + i * 5, none⟩) hbz5).trans k0; have K1 := (hb6.cell (p := ⟨b, off + i * 5 + 1, none⟩) hbz5).trans k1; have K2 := (hb6.cell (p := ⟨b, off + i * 5 + 2, none⟩) hbz5).trans k2; have K3 := (hb6.cell (p := ⟨b, off + i * 5 + 3, none⟩) hbz5).trans k3; have K4 := (hb6.cell (p := ⟨b, off + i * 5 + 4, none⟩) hbz5).trans k4; have E6 := E5.below hb6; have hb56 := E5.hz; obtain ⟨av, cv, rfl⟩ := own_shape hown; obtain ⟨_, _, R0, R1, R2, R3, R4, F1, HZ, HBW⟩ := E6; clear hb6 E5 s0 s1 k0 k1 k2 k3 k4))
  go_wp2
  refine bodyPost_ret (v := .tuple #[.agg #[.int .i64 x.ck.off, .bool x.ck.sav, .string x.ck.nm, .slice av x.offs.length cv, .int .i64 x.jump], .int .i64 0]) (by simp [results, Try.results20, go_sem, HZ, R0, R1, R2, R3, R4]) rfl ⟨_, rfl, ?_, five_below HBW (by omega) _ _ _ _ _⟩
  exact ownsRow_base (by omega) (five_own hown hb56 _ _ _ _ _)
set_option maxHeartbeats 4000000 in
theorem evalOf_ok (f : Frs) (vn va : Value) (t : Int) (i : Nat) (w : World) (hf : FrsAt w vn va f) (h0 : frsE f = 0) (hL : Lf f.nodes t (f.nodes.length - 1) i) (hi : i < f.answers.length) :
    Calls Try.prog 15 #[.agg #[vn, va], .int .i64 t] w fun e w' => ∃ v', e = .returned (.tuple #[.agg #[.int .i64 f.answers[i].ck.off, .bool f.answers[i].ck.sav, .string f.answers[i].ck.nm, v', .int .i64 f.answers[i].jump], .int .i64 0]) ∧ w'.ownsRow w.heap.size 3 1 v' f.answers[i].offs.length (f.answers[i].offs.flatMap encI) ∧ Below w.heap.size w w' := by
  obtain ⟨g0, g1, g2, g3, g4⟩ := frs_good h0
  have go := ansE_offs (g3 i hi)
  have hr : f.answers[i].offs.length * 8 ≤ 140737488355320 := by omega
  have hlen : f.nodes.length - 1 + 1 = f.nodes.length := by omega
  obtain ⟨aa, ca, rfl, la⟩ := hf.2.shape
  obtain ⟨an, cn, rfl, ln⟩ := hf.1.shape
  have ln' := maxLen_eq _ ln
  obtain ⟨b, off, vo, rfl, hbb, ⟨c0, c1, c2, c3, c4⟩, hvo, hnm, _, _⟩ := elemAns hf.2 i hi
  obtain ⟨ao, co, rfl, lo⟩ := hvo.shape
  have la' := maxLen_eq _ la
  have HF := Lib.hid hf
  have HV := Lib.hid hvo
  have HL := Lib.hid hL
  have HK := Lib.hid g4
  have H0 := Lib.hid h0
  have HN := Lib.hid hlen
  have HRr := Lib.hid hr
  have E := EvAt.new w (.slice an f.nodes.length cn) (.slice (some ⟨b, off, none⟩) f.answers.length ca)
  have hii : (i : Int) < (f.answers.length : Int) := by omega
  have hin : (0 : Int) ≤ (i : Int) := by omega
  have hw1 : IntKind.i64.wrap ((f.nodes.length : Int) - 1) = ((f.nodes.length - 1 : Nat) : Int) := by rw [IntWalk.i64_in _ (by omega)]; omega
  clear hf hvo hL ln g0 g1 g2 g3 g4 go h0 hlen lo hr la
  generalize f.answers[i] = x at *
  go_enter Try.func15, Try.ntmps15
  go_wp2_with fail
  refine (fault_any f _ _ _ (HF.out.mono E.hb)).mono ?_; rintro e w1 ⟨rfl, hb1⟩
  have E1 := E.below hb1
  rw [H0.out]
  clear E hb1
  have E1d := E1.drew
  obtain ⟨q0, q1, r0, r1, r2, r3, r4, f1, hz, hbw⟩ := E1
  obtain ⟨hc, hf⟩ := bcell hbw
  have d0 := (hc _ (off + i * 5) hbb).trans c0
  have d1 := (hc _ (off + i * 5 + 1) hbb).trans c1
  have d2 := (hc _ (off + i * 5 + 2) hbb).trans c2
  have d3 := (hc _ (off + i * 5 + 3) hbb).trans c3
  have d4 := (hc _ (off + i * 5 + 4) hbb).trans c4
  clear c0 c1 c2 c3 c4 hc hf
  have hne1 : ¬ b = w.heap.size + 1 := by omega
  have hne2 : ¬ w.heap.size + 1 = b := by omega
  go_wp2
  go_region_held3 (fun w' => w'.cell? ⟨w.heap.size, 0, none⟩ = some (.slice an f.nodes.length cn) ∧ w'.cell? ⟨w.heap.size, 1, none⟩ = some (.slice (some ⟨b, off, none⟩) f.answers.length ca) ∧ w'.cell? ⟨b, off + i * 5, none⟩ = some (.int .i64 x.ck.off) ∧ w'.cell? ⟨b, off + i * 5 + 1, none⟩ = some (.bool x.ck.sav) ∧ w'.cell? ⟨b, off + i * 5 + 2, none⟩ = some (.string x.ck.nm) ∧ w'.cell? ⟨b, off + i * 5 + 3, none⟩ = some (.slice ao x.offs.length co) ∧ w'.cell? ⟨b, off + i * 5 + 4, none⟩ = some (.int .i64 x.jump))
    (first | (with_reducible exact ⟨q0, q1, d0, d1, d2, d3, d4⟩) | (with_reducible exact ⟨s0, s1, k0, k1, k2, k3, k4⟩) | (with_reducible exact ⟨S0, S1, K0, K1, K2, K3, K4⟩) | go_keep)
    (first | (go_at_call 44; refine (valueof_any f _ _ t (f.nodes.length - 1) i HL.out _ (HF.out.mono hbw.drew)).mono ?_; rintro e w5 ⟨rfl, hb5⟩; have s0 := (hb5.cell (p := ⟨w.heap.size, 0, none⟩) (show w.heap.size < w1.heap.size by omega)).trans q0; have s1 := (hb5.cell (p := ⟨w.heap.size, 1, none⟩) (show w.heap.size < w1.heap.size by omega)).trans q1; have hbz : b < w1.heap.size := (by omega); have k0 := (hb5.cell (p := ⟨b, off + i * 5, none⟩) hbz).trans d0; have k1 := (hb5.cell (p := ⟨b, off + i * 5 + 1, none⟩) hbz).trans d1; have k2 := (hb5.cell (p := ⟨b, off + i * 5 + 2, none⟩) hbz).trans d2; have k3 := (hb5.cell (p := ⟨b, off + i * 5 + 3, none⟩) hbz).trans d3; have k4 := (hb5.cell (p := ⟨b, off + i * 5 + 4, none⟩) hbz).trans d4; have E5 := E1d.below hb5; clear hb5 q0 q1 r0 r1 r2 r3 r4 f1 d0 d1 d2 d3 d4) | (go_at_call 43; refine (answerCopy_any x _ _ (HV.out.mono E5.hb fun _ _ h => h) HRr.out).mono ?_; rintro e w6 ⟨v', rfl, hown, hb6⟩; have S0 := (hb6.cell (p := ⟨w.heap.size, 0, none⟩) (show w.heap.size < w5.heap.size by have := E5.hz; omega)).trans s0; have S1 := (hb6.cell (p := ⟨w.heap.size, 1, none⟩) (show w.heap.size < w5.heap.size by have := E5.hz; omega)).trans s1; have hbz5 : b < w5.heap.size := (by have := E5.hb.size; omega); have K0 := (hb6.cell (p := ⟨b, off + i * 5, none⟩) hbz5).trans k0; have K1 := (hb6.cell (p := ⟨b, off + i * 5 + 1, none⟩) hbz5).trans k1; have K2 := (hb6.cell (p := ⟨b, off + i * 5 + 2, none⟩) hbz5).trans k2; have K3 := (hb6.cell (p := ⟨b, off + i * 5 + 3, none⟩) hbz5).trans k3; have K4 := (hb6.cell (p := ⟨b, off + i * 5 + 4, none⟩) hbz5).trans k4; have E6 := E5.below hb6; have hb56 := E5.hz; obtain ⟨av, cv, rfl⟩ := own_shape hown; obtain ⟨_, _, R0, R1, R2, R3, R4, F1, HZ, HBW⟩ := E6; clear hb6 E5 s0 s1 k0 k1 k2 k3 k4))
  go_wp2
  refine bodyPost_ret (v := .tuple #[.agg #[.int .i64 x.ck.off, .bool x.ck.sav, .string x.ck.nm, .slice av x.offs.length cv, .int .i64 x.jump], .int .i64 0]) (by simp [results, Try.results15, go_sem, HZ, R0, R1, R2, R3, R4]) rfl ⟨_, rfl, ?_, five_below HBW (by omega) _ _ _ _ _⟩
  exact ownsRow_base (by omega) (five_own hown hb56 _ _ _ _ _)
end Go.Proofs.Ytlhidbbphngpcaa
