/-
  How structs that came in read, cell by cell (written by readgen.py).
-/
import Derived.Test.YtlhidbbphngpcaaReadCivil
namespace Go.Proofs.Ytlhidbbphngpcaa
set_option linter.unusedVariables false
set_option linter.unusedSimpArgs false
set_option maxRecDepth 100000
open Go.ChangeShapes Go.WideShapes Go.ChangeAt Go.RowKit

theorem cClock : Try.prog.cellsOf 37 = 3 := by kernel_rfl
theorem rdClock {H : Type} {enc : TypeId × Value → H} {w : World} {b : Nat} {sp : Nat → Bool} {held : Bool} {fuel : Nat} {cs : List Value} {y : DataW H × List MemPlace} (h : DataW.trod enc Try.prog w b sp held fuel 37 cs = some y) :
    ∃ (x_o : Int) (x_s : Bool) (x_nm : ByteArray), cs = [.int .i64 x_o, .bool x_s, .string x_nm] ∧ (Lit.int .i64 x_o).wf = true ∧ x_nm.size ≤ maxLen := by
  obtain ⟨hl, hf⟩ := trod_fields Try.underlying37 h
  rw [cClock] at hl
  obtain ⟨c0, c1, c2, rfl⟩ : ∃ c0 c1 c2, cs = [c0, c1, c2] := by
    match cs, hl with
    | [c0, c1, c2], _ => exact ⟨c0, c1, c2, rfl⟩
  obtain ⟨m0, z0, h0⟩ := hf 0 _ rfl
  have g0 : DataW.trod enc Try.prog w b sp held m0 3 [c0] = some z0 := by simpa [cInt_] using h0
  obtain ⟨x_o, e0, _, w0⟩ := DataW.trod_int Try.underlying3 g0
  simp only [List.cons.injEq, and_true] at e0
  subst e0
  obtain ⟨m1, z1, h1⟩ := hf 1 _ rfl
  have g1 : DataW.trod enc Try.prog w b sp held m1 4 [c1] = some z1 := by simpa [cBool_] using h1
  obtain ⟨x_s, e1, _⟩ := DataW.trod_bool Try.underlying4 g1
  simp only [List.cons.injEq, and_true] at e1
  subst e1
  obtain ⟨m2, z2, h2⟩ := hf 2 _ rfl
  have g2 : DataW.trod enc Try.prog w b sp held m2 9 [c2] = some z2 := by simpa [cStr_] using h2
  obtain ⟨x_nm, e2, _, w2⟩ := DataW.trod_string Try.underlying9 g2
  simp only [List.cons.injEq, and_true] at e2
  subst e2
  exact ⟨x_o, x_s, x_nm, rfl, w0, w2⟩
theorem openClock {H : Type} {enc : TypeId × Value → H} {w : World} {r : Reach} {b0 b : Nat} {sp : Nat → Bool} {held : Bool} {v : Value} {d : DataW H} {p : List MemPlace} (hv : Value.okWide Try.prog w r b0 37 v) (h : DataW.Trod enc Try.prog w b sp held 37 v d p) :
    ∃ (x_o : Int) (x_s : Bool) (x_nm : ByteArray), v = .agg #[.int .i64 x_o, .bool x_s, .string x_nm] ∧ (Lit.int .i64 x_o).wf = true ∧ x_nm.size ≤ maxLen := by
  obtain ⟨cs, rfl, _⟩ := okWide_struct Try.underlying37 hv
  obtain ⟨fuel, hf⟩ := h
  obtain ⟨x_o, x_s, x_nm, e, w0, w1⟩ := rdClock hf
  exact ⟨x_o, x_s, x_nm, agg_of_toList e, w0, w1⟩
theorem cSpan : Try.prog.cellsOf 50 = 4 := by kernel_rfl
theorem rdSpan {H : Type} {enc : TypeId × Value → H} {w : World} {b : Nat} {sp : Nat → Bool} {held : Bool} {fuel : Nat} {cs : List Value} {y : DataW H × List MemPlace} (h : DataW.trod enc Try.prog w b sp held fuel 50 cs = some y) :
    ∃ (x_f : Int) (x_c_o : Int) (x_c_s : Bool) (x_c_nm : ByteArray), cs = [.int .i64 x_f, .int .i64 x_c_o, .bool x_c_s, .string x_c_nm] ∧ (Lit.int .i64 x_f).wf = true ∧ (Lit.int .i64 x_c_o).wf = true ∧ x_c_nm.size ≤ maxLen := by
  obtain ⟨hl, hf⟩ := trod_fields Try.underlying50 h
  rw [cSpan] at hl
  obtain ⟨c0, c1, c2, c3, rfl⟩ : ∃ c0 c1 c2 c3, cs = [c0, c1, c2, c3] := by
    match cs, hl with
    | [c0, c1, c2, c3], _ => exact ⟨c0, c1, c2, c3, rfl⟩
  obtain ⟨m0, z0, h0⟩ := hf 0 _ rfl
  have g0 : DataW.trod enc Try.prog w b sp held m0 3 [c0] = some z0 := by simpa [cInt_] using h0
  obtain ⟨x_f, e0, _, w0⟩ := DataW.trod_int Try.underlying3 g0
  simp only [List.cons.injEq, and_true] at e0
  subst e0
  obtain ⟨m1, z1, h1⟩ := hf 1 _ rfl
  have g1 : DataW.trod enc Try.prog w b sp held m1 37 [c1, c2, c3] = some z1 := by simpa [cClock] using h1
  obtain ⟨x_c_o, x_c_s, x_c_nm, e1, w1_0, w1_1⟩ := rdClock g1
  simp only [List.cons.injEq, and_true] at e1
  obtain ⟨rfl, rfl, rfl⟩ := e1
  exact ⟨x_f, x_c_o, x_c_s, x_c_nm, rfl, w0, w1_0, w1_1⟩
theorem openSpan {H : Type} {enc : TypeId × Value → H} {w : World} {r : Reach} {b0 b : Nat} {sp : Nat → Bool} {held : Bool} {v : Value} {d : DataW H} {p : List MemPlace} (hv : Value.okWide Try.prog w r b0 50 v) (h : DataW.Trod enc Try.prog w b sp held 50 v d p) :
    ∃ (x_f : Int) (x_c_o : Int) (x_c_s : Bool) (x_c_nm : ByteArray), v = .agg #[.int .i64 x_f, .int .i64 x_c_o, .bool x_c_s, .string x_c_nm] ∧ (Lit.int .i64 x_f).wf = true ∧ (Lit.int .i64 x_c_o).wf = true ∧ x_c_nm.size ≤ maxLen := by
  obtain ⟨cs, rfl, _⟩ := okWide_struct Try.underlying50 hv
  obtain ⟨fuel, hf⟩ := h
  obtain ⟨x_f, x_c_o, x_c_s, x_c_nm, e, w0, w1, w2⟩ := rdSpan hf
  exact ⟨x_f, x_c_o, x_c_s, x_c_nm, agg_of_toList e, w0, w1, w2⟩
theorem cNode : Try.prog.cellsOf 61 = 5 := by kernel_rfl
theorem rdNode {H : Type} {enc : TypeId × Value → H} {w : World} {b : Nat} {sp : Nat → Bool} {held : Bool} {fuel : Nat} {cs : List Value} {y : DataW H × List MemPlace} (h : DataW.trod enc Try.prog w b sp held fuel 61 cs = some y) :
    ∃ (x_lf : Bool) (x_an : Int) (x_bd : Int) (x_ls : Int) (x_mr : Int), cs = [.bool x_lf, .int .i64 x_an, .int .i64 x_bd, .int .i64 x_ls, .int .i64 x_mr] ∧ (Lit.int .i64 x_an).wf = true ∧ (Lit.int .i64 x_bd).wf = true ∧ (Lit.int .i64 x_ls).wf = true ∧ (Lit.int .i64 x_mr).wf = true := by
  obtain ⟨hl, hf⟩ := trod_fields Try.underlying61 h
  rw [cNode] at hl
  obtain ⟨c0, c1, c2, c3, c4, rfl⟩ : ∃ c0 c1 c2 c3 c4, cs = [c0, c1, c2, c3, c4] := by
    match cs, hl with
    | [c0, c1, c2, c3, c4], _ => exact ⟨c0, c1, c2, c3, c4, rfl⟩
  obtain ⟨m0, z0, h0⟩ := hf 0 _ rfl
  have g0 : DataW.trod enc Try.prog w b sp held m0 4 [c0] = some z0 := by simpa [cBool_] using h0
  obtain ⟨x_lf, e0, _⟩ := DataW.trod_bool Try.underlying4 g0
  simp only [List.cons.injEq, and_true] at e0
  subst e0
  obtain ⟨m1, z1, h1⟩ := hf 1 _ rfl
  have g1 : DataW.trod enc Try.prog w b sp held m1 3 [c1] = some z1 := by simpa [cInt_] using h1
  obtain ⟨x_an, e1, _, w1⟩ := DataW.trod_int Try.underlying3 g1
  simp only [List.cons.injEq, and_true] at e1
  subst e1
  obtain ⟨m2, z2, h2⟩ := hf 2 _ rfl
  have g2 : DataW.trod enc Try.prog w b sp held m2 3 [c2] = some z2 := by simpa [cInt_] using h2
  obtain ⟨x_bd, e2, _, w2⟩ := DataW.trod_int Try.underlying3 g2
  simp only [List.cons.injEq, and_true] at e2
  subst e2
  obtain ⟨m3, z3, h3⟩ := hf 3 _ rfl
  have g3 : DataW.trod enc Try.prog w b sp held m3 3 [c3] = some z3 := by simpa [cInt_] using h3
  obtain ⟨x_ls, e3, _, w3⟩ := DataW.trod_int Try.underlying3 g3
  simp only [List.cons.injEq, and_true] at e3
  subst e3
  obtain ⟨m4, z4, h4⟩ := hf 4 _ rfl
  have g4 : DataW.trod enc Try.prog w b sp held m4 3 [c4] = some z4 := by simpa [cInt_] using h4
  obtain ⟨x_mr, e4, _, w4⟩ := DataW.trod_int Try.underlying3 g4
  simp only [List.cons.injEq, and_true] at e4
  subst e4
  exact ⟨x_lf, x_an, x_bd, x_ls, x_mr, rfl, w1, w2, w3, w4⟩
theorem openNode {H : Type} {enc : TypeId × Value → H} {w : World} {r : Reach} {b0 b : Nat} {sp : Nat → Bool} {held : Bool} {v : Value} {d : DataW H} {p : List MemPlace} (hv : Value.okWide Try.prog w r b0 61 v) (h : DataW.Trod enc Try.prog w b sp held 61 v d p) :
    ∃ (x_lf : Bool) (x_an : Int) (x_bd : Int) (x_ls : Int) (x_mr : Int), v = .agg #[.bool x_lf, .int .i64 x_an, .int .i64 x_bd, .int .i64 x_ls, .int .i64 x_mr] ∧ (Lit.int .i64 x_an).wf = true ∧ (Lit.int .i64 x_bd).wf = true ∧ (Lit.int .i64 x_ls).wf = true ∧ (Lit.int .i64 x_mr).wf = true := by
  obtain ⟨cs, rfl, _⟩ := okWide_struct Try.underlying61 hv
  obtain ⟨fuel, hf⟩ := h
  obtain ⟨x_lf, x_an, x_bd, x_ls, x_mr, e, w0, w1, w2, w3⟩ := rdNode hf
  exact ⟨x_lf, x_an, x_bd, x_ls, x_mr, agg_of_toList e, w0, w1, w2, w3⟩
theorem cInstr : Try.prog.cellsOf 102 = 2 := by kernel_rfl
theorem rdInstr {H : Type} {enc : TypeId × Value → H} {w : World} {b : Nat} {sp : Nat → Bool} {held : Bool} {fuel : Nat} {cs : List Value} {y : DataW H × List MemPlace} (h : DataW.trod enc Try.prog w b sp held fuel 102 cs = some y) :
    ∃ (x_op : Int) (x_n : Int), cs = [.int .i64 x_op, .int .i64 x_n] ∧ (Lit.int .i64 x_op).wf = true ∧ (Lit.int .i64 x_n).wf = true := by
  obtain ⟨hl, hf⟩ := trod_fields Try.underlying102 h
  rw [cInstr] at hl
  obtain ⟨c0, c1, rfl⟩ : ∃ c0 c1, cs = [c0, c1] := by
    match cs, hl with
    | [c0, c1], _ => exact ⟨c0, c1, rfl⟩
  obtain ⟨m0, z0, h0⟩ := hf 0 _ rfl
  have g0 : DataW.trod enc Try.prog w b sp held m0 3 [c0] = some z0 := by simpa [cInt_] using h0
  obtain ⟨x_op, e0, _, w0⟩ := DataW.trod_int Try.underlying3 g0
  simp only [List.cons.injEq, and_true] at e0
  subst e0
  obtain ⟨m1, z1, h1⟩ := hf 1 _ rfl
  have g1 : DataW.trod enc Try.prog w b sp held m1 3 [c1] = some z1 := by simpa [cInt_] using h1
  obtain ⟨x_n, e1, _, w1⟩ := DataW.trod_int Try.underlying3 g1
  simp only [List.cons.injEq, and_true] at e1
  subst e1
  exact ⟨x_op, x_n, rfl, w0, w1⟩
theorem openInstr {H : Type} {enc : TypeId × Value → H} {w : World} {r : Reach} {b0 b : Nat} {sp : Nat → Bool} {held : Bool} {v : Value} {d : DataW H} {p : List MemPlace} (hv : Value.okWide Try.prog w r b0 102 v) (h : DataW.Trod enc Try.prog w b sp held 102 v d p) :
    ∃ (x_op : Int) (x_n : Int), v = .agg #[.int .i64 x_op, .int .i64 x_n] ∧ (Lit.int .i64 x_op).wf = true ∧ (Lit.int .i64 x_n).wf = true := by
  obtain ⟨cs, rfl, _⟩ := okWide_struct Try.underlying102 hv
  obtain ⟨fuel, hf⟩ := h
  obtain ⟨x_op, x_n, e, w0, w1⟩ := rdInstr hf
  exact ⟨x_op, x_n, agg_of_toList e, w0, w1⟩
end Go.Proofs.Ytlhidbbphngpcaa
