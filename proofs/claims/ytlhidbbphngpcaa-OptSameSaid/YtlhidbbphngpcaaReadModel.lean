/-
  How answers, forests, spans and programs that came in read.
-/
import Derived.Test.YtlhidbbphngpcaaReadFlat
import Derived.Test.YtlhidbbphngpcaaModel
namespace Go.Proofs.Ytlhidbbphngpcaa
set_option linter.unusedVariables false
set_option linter.unusedSimpArgs false
set_option maxRecDepth 100000
open Go.ChangeShapes Go.WideShapes Go.ChangeAt Go.RowKit

section
variable {H : Type} {enc : TypeId × Value → H} {w : World} {b : Nat} {sp : Nat → Bool} {held : Bool} {fuel : Nat} {cs : List Value} {y : DataW H × List MemPlace}
theorem rdInts (h : DataW.trod enc Try.prog w b sp held fuel 34 cs = some y) : ∃ v xs, cs = [v] ∧ SlAt w 1 RInt v xs :=
  slAt_of_trod Try.underlying34 cInt_ (by omega) (fun m cs' z hz => by
    obtain ⟨n, e, _, hw⟩ := DataW.trod_int Try.underlying3 hz
    exact ⟨n, e, hw⟩) h
theorem cSlInt : Try.prog.cellsOf 34 = 1 := by kernel_rfl
theorem cAnswer : Try.prog.cellsOf 39 = 5 := by kernel_rfl
theorem rdAns (h : DataW.trod enc Try.prog w b sp held fuel 39 cs = some y) : ∃ a, RAns w cs a := by
  obtain ⟨hl, hf⟩ := trod_fields Try.underlying39 h
  rw [cAnswer] at hl
  obtain ⟨c0, c1, c2, c3, c4, rfl⟩ : ∃ c0 c1 c2 c3 c4, cs = [c0, c1, c2, c3, c4] := by
    match cs, hl with
    | [c0, c1, c2, c3, c4], _ => exact ⟨c0, c1, c2, c3, c4, rfl⟩
  obtain ⟨m0, z0, h0⟩ := hf 0 _ rfl
  have g0 : DataW.trod enc Try.prog w b sp held m0 37 [c0, c1, c2] = some z0 := by simpa [cClock] using h0
  obtain ⟨o, s, nm, e0, w0, w1⟩ := rdClock g0
  obtain ⟨m1, z1, h1⟩ := hf 1 _ rfl
  have g1 : DataW.trod enc Try.prog w b sp held m1 34 [c3] = some z1 := by simpa [cSlInt] using h1
  obtain ⟨v, xs, e1, w2⟩ := rdInts g1
  obtain ⟨m2, z2, h2⟩ := hf 2 _ rfl
  have g2 : DataW.trod enc Try.prog w b sp held m2 3 [c4] = some z2 := by simpa [cInt_] using h2
  obtain ⟨j, e2, _, w3⟩ := DataW.trod_int Try.underlying3 g2
  simp only [List.cons.injEq, and_true] at e0 e1 e2
  obtain ⟨rfl, rfl, rfl⟩ := e0
  subst e1 e2
  exact ⟨⟨⟨o, s, nm⟩, xs, j⟩, _, rfl, w2, w0, w3, w1⟩
theorem rdNods (h : DataW.trod enc Try.prog w b sp held fuel 23 cs = some y) : ∃ v xs, cs = [v] ∧ SlAt w 5 RNod v xs :=
  slAt_of_trod Try.underlying23 cNode (by omega) (fun m cs' z hz => by
    obtain ⟨lf, an, bd, ls, mr, e, w1, w2, w3, w4⟩ := rdNode hz
    exact ⟨⟨lf, an, bd, ls, mr⟩, e, w1, w2, w3, w4⟩) h
theorem rdAnss (h : DataW.trod enc Try.prog w b sp held fuel 24 cs = some y) : ∃ v xs, cs = [v] ∧ SlAt w 5 (RAns w) v xs :=
  slAt_of_trod Try.underlying24 cAnswer (by omega) (fun m cs' z hz => rdAns hz) h
theorem rdSpns (h : DataW.trod enc Try.prog w b sp held fuel 22 cs = some y) : ∃ v xs, cs = [v] ∧ SlAt w 4 RSpn v xs :=
  slAt_of_trod Try.underlying22 cSpan (by omega) (fun m cs' z hz => by
    obtain ⟨f, o, s, nm, e, w1, w2, w3⟩ := rdSpan hz
    exact ⟨⟨f, ⟨o, s, nm⟩⟩, e, w1, w2, w3⟩) h
theorem rdInss (h : DataW.trod enc Try.prog w b sp held fuel 66 cs = some y) : ∃ v xs, cs = [v] ∧ SlAt w 2 RIns v xs :=
  slAt_of_trod Try.underlying66 cInstr (by omega) (fun m cs' z hz => by
    obtain ⟨op, n, e, w1, w2⟩ := rdInstr hz
    exact ⟨⟨op, n⟩, e, w1, w2⟩) h
theorem cSlNod : Try.prog.cellsOf 23 = 1 := by kernel_rfl
theorem cSlAns : Try.prog.cellsOf 24 = 1 := by kernel_rfl
theorem cSlIns : Try.prog.cellsOf 66 = 1 := by kernel_rfl
theorem cForest : Try.prog.cellsOf 26 = 2 := by kernel_rfl
theorem cProgram : Try.prog.cellsOf 68 = 3 := by kernel_rfl
theorem rdForest (h : DataW.trod enc Try.prog w b sp held fuel 26 cs = some y) : ∃ vn va f, cs = [vn, va] ∧ FrsAt w vn va f := by
  obtain ⟨hl, hf⟩ := trod_fields Try.underlying26 h
  rw [cForest] at hl
  obtain ⟨c0, c1, rfl⟩ : ∃ c0 c1, cs = [c0, c1] := by
    match cs, hl with
    | [c0, c1], _ => exact ⟨c0, c1, rfl⟩
  obtain ⟨m0, z0, h0⟩ := hf 0 _ rfl
  have g0 : DataW.trod enc Try.prog w b sp held m0 23 [c0] = some z0 := by simpa [cSlNod] using h0
  obtain ⟨v, xs, e0, w0⟩ := rdNods g0
  obtain ⟨m1, z1, h1⟩ := hf 1 _ rfl
  have g1 : DataW.trod enc Try.prog w b sp held m1 24 [c1] = some z1 := by simpa [cSlAns] using h1
  obtain ⟨v', ys, e1, w1⟩ := rdAnss g1
  simp only [List.cons.injEq, and_true] at e0 e1
  subst e0 e1
  exact ⟨_, _, ⟨xs, ys⟩, rfl, w0, w1⟩
theorem rdProgram (h : DataW.trod enc Try.prog w b sp held fuel 68 cs = some y) : ∃ vc vp va p, cs = [vc, vp, va] ∧ PrgAt w vc vp va p := by
  obtain ⟨hl, hf⟩ := trod_fields Try.underlying68 h
  rw [cProgram] at hl
  obtain ⟨c0, c1, c2, rfl⟩ : ∃ c0 c1 c2, cs = [c0, c1, c2] := by
    match cs, hl with
    | [c0, c1, c2], _ => exact ⟨c0, c1, c2, rfl⟩
  obtain ⟨m0, z0, h0⟩ := hf 0 _ rfl
  have g0 : DataW.trod enc Try.prog w b sp held m0 66 [c0] = some z0 := by simpa [cSlIns] using h0
  obtain ⟨v0, xs, e0, w0⟩ := rdInss g0
  obtain ⟨m1, z1, h1⟩ := hf 1 _ rfl
  have g1 : DataW.trod enc Try.prog w b sp held m1 34 [c1] = some z1 := by simpa [cSlInt] using h1
  obtain ⟨v1, ys, e1, w1⟩ := rdInts g1
  obtain ⟨m2, z2, h2⟩ := hf 2 _ rfl
  have g2 : DataW.trod enc Try.prog w b sp held m2 24 [c2] = some z2 := by simpa [cSlAns] using h2
  obtain ⟨v2, zs, e2, w2⟩ := rdAnss g2
  simp only [List.cons.injEq, and_true] at e0 e1 e2
  subst e0 e1 e2
  exact ⟨_, _, _, ⟨xs, ys, zs⟩, rfl, w0, w1, w2⟩
end
section
variable {H : Type} {enc : TypeId × Value → H} {w : World} {r : Reach} {b0 b : Nat} {sp : Nat → Bool} {held : Bool} {v : Value} {d : DataW H} {p : List MemPlace}
theorem openAns (hv : Value.okWide Try.prog w r b0 39 v) (h : DataW.Trod enc Try.prog w b sp held 39 v d p) : ∃ (a : Ans) (vo : Value), v = .agg #[.int .i64 a.ck.off, .bool a.ck.sav, .string a.ck.nm, vo, .int .i64 a.jump] ∧ SlAt w 1 RInt vo a.offs ∧ I64 a.ck.off ∧ I64 a.jump ∧ a.ck.nm.size ≤ maxLen := by
  obtain ⟨cs, rfl, _⟩ := okWide_struct Try.underlying39 hv
  obtain ⟨fuel, hf⟩ := h
  obtain ⟨a, vo, e, h1⟩ := rdAns hf
  exact ⟨a, vo, agg_of_toList e, h1⟩
theorem openForest (hv : Value.okWide Try.prog w r b0 26 v) (h : DataW.Trod enc Try.prog w b sp held 26 v d p) : ∃ vn va f, v = .agg #[vn, va] ∧ FrsAt w vn va f := by
  obtain ⟨cs, rfl, _⟩ := okWide_struct Try.underlying26 hv
  obtain ⟨fuel, hf⟩ := h
  obtain ⟨vn, va, f, e, h1⟩ := rdForest hf
  exact ⟨vn, va, f, agg_of_toList e, h1⟩
theorem openProgram (hv : Value.okWide Try.prog w r b0 68 v) (h : DataW.Trod enc Try.prog w b sp held 68 v d p) : ∃ vc vp va q, v = .agg #[vc, vp, va] ∧ PrgAt w vc vp va q := by
  obtain ⟨cs, rfl, _⟩ := okWide_struct Try.underlying68 hv
  obtain ⟨fuel, hf⟩ := h
  obtain ⟨vc, vp, va, q, e, h1⟩ := rdProgram hf
  exact ⟨vc, vp, va, q, agg_of_toList e, h1⟩
theorem openSpans (hv : Value.okWide Try.prog w r b0 22 v) (h : DataW.Trod enc Try.prog w b sp held 22 v d p) : ∃ xs, SlAt w 4 RSpn v xs := by
  obtain ⟨a, len, cap, rfl⟩ := okWide_slice Try.underlying22 hv
  obtain ⟨fuel, hf⟩ := h
  obtain ⟨v', xs, e, h1⟩ := rdSpns hf
  have e' : [Value.slice a len cap] = [v'] := e
  simp only [List.cons.injEq, and_true] at e'
  subst e'
  exact ⟨xs, h1⟩
end
end Go.Proofs.Ytlhidbbphngpcaa
