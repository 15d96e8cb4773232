/-
  How structs that came in read, cell by cell (written by readgen.py).
-/
import Derived.Test.YtlhidbbphngpcaaRead
namespace Go.Proofs.Ytlhidbbphngpcaa
set_option linter.unusedVariables false
set_option linter.unusedSimpArgs false
set_option maxRecDepth 100000
open Go.ChangeShapes Go.WideShapes Go.ChangeAt Go.RowKit

theorem cInt_ : Try.prog.cellsOf 3 = 1 := by kernel_rfl
theorem cBool_ : Try.prog.cellsOf 4 = 1 := by kernel_rfl
theorem cStr_ : Try.prog.cellsOf 9 = 1 := by kernel_rfl
theorem cRaw : Try.prog.cellsOf 97 = 4 := by kernel_rfl
theorem rdRaw {H : Type} {enc : TypeId × Value → H} {w : World} {b : Nat} {sp : Nat → Bool} {held : Bool} {fuel : Nat} {cs : List Value} {y : DataW H × List MemPlace} (h : DataW.trod enc Try.prog w b sp held fuel 97 cs = some y) :
    ∃ (x_k : Int) (x_a : Int) (x_b : Int) (x_c : Int), cs = [.int .i64 x_k, .int .i64 x_a, .int .i64 x_b, .int .i64 x_c] ∧ (Lit.int .i64 x_k).wf = true ∧ (Lit.int .i64 x_a).wf = true ∧ (Lit.int .i64 x_b).wf = true ∧ (Lit.int .i64 x_c).wf = true := by
  obtain ⟨hl, hf⟩ := trod_fields Try.underlying97 h
  rw [cRaw] at hl
  obtain ⟨c0, c1, c2, c3, rfl⟩ : ∃ c0 c1 c2 c3, cs = [c0, c1, c2, c3] := by
    match cs, hl with
    | [c0, c1, c2, c3], _ => exact ⟨c0, c1, c2, c3, rfl⟩
  obtain ⟨m0, z0, h0⟩ := hf 0 _ rfl
  have g0 : DataW.trod enc Try.prog w b sp held m0 3 [c0] = some z0 := by simpa [cInt_] using h0
  obtain ⟨x_k, e0, _, w0⟩ := DataW.trod_int Try.underlying3 g0
  simp only [List.cons.injEq, and_true] at e0
  subst e0
  obtain ⟨m1, z1, h1⟩ := hf 1 _ rfl
  have g1 : DataW.trod enc Try.prog w b sp held m1 3 [c1] = some z1 := by simpa [cInt_] using h1
  obtain ⟨x_a, e1, _, w1⟩ := DataW.trod_int Try.underlying3 g1
  simp only [List.cons.injEq, and_true] at e1
  subst e1
  obtain ⟨m2, z2, h2⟩ := hf 2 _ rfl
  have g2 : DataW.trod enc Try.prog w b sp held m2 3 [c2] = some z2 := by simpa [cInt_] using h2
  obtain ⟨x_b, e2, _, w2⟩ := DataW.trod_int Try.underlying3 g2
  simp only [List.cons.injEq, and_true] at e2
  subst e2
  obtain ⟨m3, z3, h3⟩ := hf 3 _ rfl
  have g3 : DataW.trod enc Try.prog w b sp held m3 3 [c3] = some z3 := by simpa [cInt_] using h3
  obtain ⟨x_c, e3, _, w3⟩ := DataW.trod_int Try.underlying3 g3
  simp only [List.cons.injEq, and_true] at e3
  subst e3
  exact ⟨x_k, x_a, x_b, x_c, rfl, w0, w1, w2, w3⟩
theorem openRaw {H : Type} {enc : TypeId × Value → H} {w : World} {r : Reach} {b0 b : Nat} {sp : Nat → Bool} {held : Bool} {v : Value} {d : DataW H} {p : List MemPlace} (hv : Value.okWide Try.prog w r b0 97 v) (h : DataW.Trod enc Try.prog w b sp held 97 v d p) :
    ∃ (x_k : Int) (x_a : Int) (x_b : Int) (x_c : Int), v = .agg #[.int .i64 x_k, .int .i64 x_a, .int .i64 x_b, .int .i64 x_c] ∧ (Lit.int .i64 x_k).wf = true ∧ (Lit.int .i64 x_a).wf = true ∧ (Lit.int .i64 x_b).wf = true ∧ (Lit.int .i64 x_c).wf = true := by
  obtain ⟨cs, rfl, _⟩ := okWide_struct Try.underlying97 hv
  obtain ⟨fuel, hf⟩ := h
  obtain ⟨x_k, x_a, x_b, x_c, e, w0, w1, w2, w3⟩ := rdRaw hf
  exact ⟨x_k, x_a, x_b, x_c, agg_of_toList e, w0, w1, w2, w3⟩
end Go.Proofs.Ytlhidbbphngpcaa
