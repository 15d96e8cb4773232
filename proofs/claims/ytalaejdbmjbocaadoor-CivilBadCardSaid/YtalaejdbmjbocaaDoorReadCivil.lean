/-
  How structs that came in read, cell by cell (written by readgen.py).
-/
import Derived.Test.YtalaejdbmjbocaaDoorRead
namespace Go.Proofs.YtalaejdbmjbocaaDoor
set_option linter.unusedVariables false
set_option linter.unusedSimpArgs false
open Go.ChangeShapes Go.WideShapes Go.ChangeAt Go.RowKit

theorem cInt_ : Tryd.prog.cellsOf 3 = 1 := by kernel_rfl
theorem cBool_ : Tryd.prog.cellsOf 4 = 1 := by kernel_rfl
theorem cStr_ : Tryd.prog.cellsOf 9 = 1 := by kernel_rfl
theorem cDay : Tryd.prog.cellsOf 36 = 3 := by kernel_rfl
theorem rdDay {H : Type} {enc : TypeId × Value → H} {w : World} {b : Nat} {sp : Nat → Bool} {held : Bool} {fuel : Nat} {cs : List Value} {y : DataW H × List MemPlace} (h : DataW.trod enc Tryd.prog w b sp held fuel 36 cs = some y) :
    ∃ (x_k : Int) (x_a : Int) (x_n : Int), cs = [.int .i64 x_k, .int .i64 x_a, .int .i64 x_n] ∧ (Lit.int .i64 x_k).wf = true ∧ (Lit.int .i64 x_a).wf = true ∧ (Lit.int .i64 x_n).wf = true := by
  obtain ⟨hl, hf⟩ := trod_fields Tryd.underlying36 h
  rw [cDay] at hl
  obtain ⟨c0, c1, c2, rfl⟩ : ∃ c0 c1 c2, cs = [c0, c1, c2] := by
    match cs, hl with
    | [c0, c1, c2], _ => exact ⟨c0, c1, c2, rfl⟩
  obtain ⟨m0, z0, h0⟩ := hf 0 _ rfl
  have g0 : DataW.trod enc Tryd.prog w b sp held m0 3 [c0] = some z0 := by simpa [cInt_] using h0
  obtain ⟨x_k, e0, _, w0⟩ := DataW.trod_int Tryd.underlying3 g0
  simp only [List.cons.injEq, and_true] at e0
  subst e0
  obtain ⟨m1, z1, h1⟩ := hf 1 _ rfl
  have g1 : DataW.trod enc Tryd.prog w b sp held m1 3 [c1] = some z1 := by simpa [cInt_] using h1
  obtain ⟨x_a, e1, _, w1⟩ := DataW.trod_int Tryd.underlying3 g1
  simp only [List.cons.injEq, and_true] at e1
  subst e1
  obtain ⟨m2, z2, h2⟩ := hf 2 _ rfl
  have g2 : DataW.trod enc Tryd.prog w b sp held m2 3 [c2] = some z2 := by simpa [cInt_] using h2
  obtain ⟨x_n, e2, _, w2⟩ := DataW.trod_int Tryd.underlying3 g2
  simp only [List.cons.injEq, and_true] at e2
  subst e2
  exact ⟨x_k, x_a, x_n, rfl, w0, w1, w2⟩
theorem openDay {H : Type} {enc : TypeId × Value → H} {w : World} {r : Reach} {b0 b : Nat} {sp : Nat → Bool} {held : Bool} {v : Value} {d : DataW H} {p : List MemPlace} (hv : Value.okWide Tryd.prog w r b0 36 v) (h : DataW.Trod enc Tryd.prog w b sp held 36 v d p) :
    ∃ (x_k : Int) (x_a : Int) (x_n : Int), v = .agg #[.int .i64 x_k, .int .i64 x_a, .int .i64 x_n] ∧ (Lit.int .i64 x_k).wf = true ∧ (Lit.int .i64 x_a).wf = true ∧ (Lit.int .i64 x_n).wf = true := by
  obtain ⟨cs, rfl, _⟩ := okWide_struct Tryd.underlying36 hv
  obtain ⟨fuel, hf⟩ := h
  obtain ⟨x_k, x_a, x_n, e, w0, w1, w2⟩ := rdDay hf
  exact ⟨x_k, x_a, x_n, agg_of_toList e, w0, w1, w2⟩
theorem cMoment : Tryd.prog.cellsOf 46 = 6 := by kernel_rfl
theorem rdMoment {H : Type} {enc : TypeId × Value → H} {w : World} {b : Nat} {sp : Nat → Bool} {held : Bool} {fuel : Nat} {cs : List Value} {y : DataW H × List MemPlace} (h : DataW.trod enc Tryd.prog w b sp held fuel 46 cs = some y) :
    ∃ (x_mo : Int) (x_d_k : Int) (x_d_a : Int) (x_d_n : Int) (x_t : Int) (x_c : Int), cs = [.int .i64 x_mo, .int .i64 x_d_k, .int .i64 x_d_a, .int .i64 x_d_n, .int .i64 x_t, .int .i64 x_c] ∧ (Lit.int .i64 x_mo).wf = true ∧ (Lit.int .i64 x_d_k).wf = true ∧ (Lit.int .i64 x_d_a).wf = true ∧ (Lit.int .i64 x_d_n).wf = true ∧ (Lit.int .i64 x_t).wf = true ∧ (Lit.int .i64 x_c).wf = true := by
  obtain ⟨hl, hf⟩ := trod_fields Tryd.underlying46 h
  rw [cMoment] at hl
  obtain ⟨c0, c1, c2, c3, c4, c5, rfl⟩ : ∃ c0 c1 c2 c3 c4 c5, cs = [c0, c1, c2, c3, c4, c5] := by
    match cs, hl with
    | [c0, c1, c2, c3, c4, c5], _ => exact ⟨c0, c1, c2, c3, c4, c5, rfl⟩
  obtain ⟨m0, z0, h0⟩ := hf 0 _ rfl
  have g0 : DataW.trod enc Tryd.prog w b sp held m0 3 [c0] = some z0 := by simpa [cInt_] using h0
  obtain ⟨x_mo, e0, _, w0⟩ := DataW.trod_int Tryd.underlying3 g0
  simp only [List.cons.injEq, and_true] at e0
  subst e0
  obtain ⟨m1, z1, h1⟩ := hf 1 _ rfl
  have g1 : DataW.trod enc Tryd.prog w b sp held m1 36 [c1, c2, c3] = some z1 := by simpa [cDay] using h1
  obtain ⟨x_d_k, x_d_a, x_d_n, e1, w1_0, w1_1, w1_2⟩ := rdDay g1
  simp only [List.cons.injEq, and_true] at e1
  obtain ⟨rfl, rfl, rfl⟩ := e1
  obtain ⟨m2, z2, h2⟩ := hf 2 _ rfl
  have g2 : DataW.trod enc Tryd.prog w b sp held m2 3 [c4] = some z2 := by simpa [cInt_] using h2
  obtain ⟨x_t, e2, _, w2⟩ := DataW.trod_int Tryd.underlying3 g2
  simp only [List.cons.injEq, and_true] at e2
  subst e2
  obtain ⟨m3, z3, h3⟩ := hf 3 _ rfl
  have g3 : DataW.trod enc Tryd.prog w b sp held m3 3 [c5] = some z3 := by simpa [cInt_] using h3
  obtain ⟨x_c, e3, _, w3⟩ := DataW.trod_int Tryd.underlying3 g3
  simp only [List.cons.injEq, and_true] at e3
  subst e3
  exact ⟨x_mo, x_d_k, x_d_a, x_d_n, x_t, x_c, rfl, w0, w1_0, w1_1, w1_2, w2, w3⟩
theorem openMoment {H : Type} {enc : TypeId × Value → H} {w : World} {r : Reach} {b0 b : Nat} {sp : Nat → Bool} {held : Bool} {v : Value} {d : DataW H} {p : List MemPlace} (hv : Value.okWide Tryd.prog w r b0 46 v) (h : DataW.Trod enc Tryd.prog w b sp held 46 v d p) :
    ∃ (x_mo : Int) (x_d_k : Int) (x_d_a : Int) (x_d_n : Int) (x_t : Int) (x_c : Int), v = .agg #[.int .i64 x_mo, .int .i64 x_d_k, .int .i64 x_d_a, .int .i64 x_d_n, .int .i64 x_t, .int .i64 x_c] ∧ (Lit.int .i64 x_mo).wf = true ∧ (Lit.int .i64 x_d_k).wf = true ∧ (Lit.int .i64 x_d_a).wf = true ∧ (Lit.int .i64 x_d_n).wf = true ∧ (Lit.int .i64 x_t).wf = true ∧ (Lit.int .i64 x_c).wf = true := by
  obtain ⟨cs, rfl, _⟩ := okWide_struct Tryd.underlying46 hv
  obtain ⟨fuel, hf⟩ := h
  obtain ⟨x_mo, x_d_k, x_d_a, x_d_n, x_t, x_c, e, w0, w1, w2, w3, w4, w5⟩ := rdMoment hf
  exact ⟨x_mo, x_d_k, x_d_a, x_d_n, x_t, x_c, agg_of_toList e, w0, w1, w2, w3, w4, w5⟩
theorem cRaw : Tryd.prog.cellsOf 50 = 4 := by kernel_rfl
theorem rdRaw {H : Type} {enc : TypeId × Value → H} {w : World} {b : Nat} {sp : Nat → Bool} {held : Bool} {fuel : Nat} {cs : List Value} {y : DataW H × List MemPlace} (h : DataW.trod enc Tryd.prog w b sp held fuel 50 cs = some y) :
    ∃ (x_k : Int) (x_a : Int) (x_b : Int) (x_c : Int), cs = [.int .i64 x_k, .int .i64 x_a, .int .i64 x_b, .int .i64 x_c] ∧ (Lit.int .i64 x_k).wf = true ∧ (Lit.int .i64 x_a).wf = true ∧ (Lit.int .i64 x_b).wf = true ∧ (Lit.int .i64 x_c).wf = true := by
  obtain ⟨hl, hf⟩ := trod_fields Tryd.underlying50 h
  rw [cRaw] at hl
  obtain ⟨c0, c1, c2, c3, rfl⟩ : ∃ c0 c1 c2 c3, cs = [c0, c1, c2, c3] := by
    match cs, hl with
    | [c0, c1, c2, c3], _ => exact ⟨c0, c1, c2, c3, rfl⟩
  obtain ⟨m0, z0, h0⟩ := hf 0 _ rfl
  have g0 : DataW.trod enc Tryd.prog w b sp held m0 3 [c0] = some z0 := by simpa [cInt_] using h0
  obtain ⟨x_k, e0, _, w0⟩ := DataW.trod_int Tryd.underlying3 g0
  simp only [List.cons.injEq, and_true] at e0
  subst e0
  obtain ⟨m1, z1, h1⟩ := hf 1 _ rfl
  have g1 : DataW.trod enc Tryd.prog w b sp held m1 3 [c1] = some z1 := by simpa [cInt_] using h1
  obtain ⟨x_a, e1, _, w1⟩ := DataW.trod_int Tryd.underlying3 g1
  simp only [List.cons.injEq, and_true] at e1
  subst e1
  obtain ⟨m2, z2, h2⟩ := hf 2 _ rfl
  have g2 : DataW.trod enc Tryd.prog w b sp held m2 3 [c2] = some z2 := by simpa [cInt_] using h2
  obtain ⟨x_b, e2, _, w2⟩ := DataW.trod_int Tryd.underlying3 g2
  simp only [List.cons.injEq, and_true] at e2
  subst e2
  obtain ⟨m3, z3, h3⟩ := hf 3 _ rfl
  have g3 : DataW.trod enc Tryd.prog w b sp held m3 3 [c3] = some z3 := by simpa [cInt_] using h3
  obtain ⟨x_c, e3, _, w3⟩ := DataW.trod_int Tryd.underlying3 g3
  simp only [List.cons.injEq, and_true] at e3
  subst e3
  exact ⟨x_k, x_a, x_b, x_c, rfl, w0, w1, w2, w3⟩
theorem openRaw {H : Type} {enc : TypeId × Value → H} {w : World} {r : Reach} {b0 b : Nat} {sp : Nat → Bool} {held : Bool} {v : Value} {d : DataW H} {p : List MemPlace} (hv : Value.okWide Tryd.prog w r b0 50 v) (h : DataW.Trod enc Tryd.prog w b sp held 50 v d p) :
    ∃ (x_k : Int) (x_a : Int) (x_b : Int) (x_c : Int), v = .agg #[.int .i64 x_k, .int .i64 x_a, .int .i64 x_b, .int .i64 x_c] ∧ (Lit.int .i64 x_k).wf = true ∧ (Lit.int .i64 x_a).wf = true ∧ (Lit.int .i64 x_b).wf = true ∧ (Lit.int .i64 x_c).wf = true := by
  obtain ⟨cs, rfl, _⟩ := okWide_struct Tryd.underlying50 hv
  obtain ⟨fuel, hf⟩ := h
  obtain ⟨x_k, x_a, x_b, x_c, e, w0, w1, w2, w3⟩ := rdRaw hf
  exact ⟨x_k, x_a, x_b, x_c, agg_of_toList e, w0, w1, w2, w3⟩
end Go.Proofs.YtalaejdbmjbocaaDoor
