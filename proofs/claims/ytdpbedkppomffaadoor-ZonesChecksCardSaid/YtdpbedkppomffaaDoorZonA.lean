/-
  Sources: their rules, zones and links, and how they lie in memory; how one that came in reads.
-/
import Derived.Test.YtdpbedkppomffaaDoorBase
import Derived.Test.YtdpbedkppomffaaDoorStbA
namespace Go.Proofs.YtdpbedkppomffaaDoor
set_option linter.unusedVariables false
set_option linter.unusedSimpArgs false
set_option maxRecDepth 100000
open Go.ChangeShapes Go.WideShapes Go.ChangeAt Go.RowKit

/-- an era of a zone. -/
structure Ero where
  off : Int
  rl : ByteArray
  sv : Int
  fm : ByteArray
  en : Bool
  yr : Int
  un : Mom
structure Zon where
  nm : ByteArray
  eras : List Ero
structure Lnk where
  of : ByteArray
  nm : ByteArray
structure Src where
  rules : List Rul
  zones : List Zon
  links : List Lnk
def M64 (m : Mom) : Prop := I64 m.mo ∧ I64 m.k ∧ I64 m.a ∧ I64 m.n ∧ I64 m.t ∧ I64 m.c
def RulV (r : Rul) : List Value := [.string r.nm, .int .i64 r.fr, .int .i64 r.to, .int .i64 r.at'.mo, .int .i64 r.at'.k, .int .i64 r.at'.a, .int .i64 r.at'.n, .int .i64 r.at'.t, .int .i64 r.at'.c, .int .i64 r.sv, .string r.lt]
def EroV (x : Ero) : List Value := [.int .i64 x.off, .string x.rl, .int .i64 x.sv, .string x.fm, .bool x.en, .int .i64 x.yr, .int .i64 x.un.mo, .int .i64 x.un.k, .int .i64 x.un.a, .int .i64 x.un.n, .int .i64 x.un.t, .int .i64 x.un.c]
/-- numbers and texts of a rule, of an era, as a machine bears them. -/
def R64 (r : Rul) : Prop := r.nm.size ≤ maxLen ∧ I64 r.fr ∧ I64 r.to ∧ M64 r.at' ∧ I64 r.sv ∧ r.lt.size ≤ maxLen
def E64 (x : Ero) : Prop := I64 x.off ∧ x.rl.size ≤ maxLen ∧ I64 x.sv ∧ x.fm.size ≤ maxLen ∧ I64 x.yr ∧ M64 x.un
def RRul (cs : List Value) (r : Rul) : Prop := cs = RulV r ∧ R64 r
def REro (cs : List Value) (x : Ero) : Prop := cs = EroV x ∧ E64 x
def RZon (w : World) (cs : List Value) (z : Zon) : Prop := ∃ v, cs = [.string z.nm, v] ∧ SlAt w 12 REro v z.eras ∧ z.nm.size ≤ maxLen
def RLnk (cs : List Value) (l : Lnk) : Prop := cs = [.string l.of, .string l.nm] ∧ l.of.size ≤ maxLen ∧ l.nm.size ≤ maxLen
theorem RZon.mono {w w' : World} (hb : Below w.heap.size w w') (cs : List Value) (x : Zon) (h : RZon w cs x) : RZon w' cs x := by
  obtain ⟨v, h1, h2, h3⟩ := h
  exact ⟨v, h1, h2.mono hb fun _ _ h => h, h3⟩
def SrcAt (w : World) (vr vz vl : Value) (s : Src) : Prop := SlAt w 11 RRul vr s.rules ∧ SlAt w 2 (RZon w) vz s.zones ∧ SlAt w 2 RLnk vl s.links
theorem SrcAt.mono {w w' : World} {vr vz vl : Value} {s : Src} (h : SrcAt w vr vz vl s) (hb : Below w.heap.size w w') : SrcAt w' vr vz vl s :=
  ⟨h.1.mono hb fun _ _ h => h, h.2.1.mono hb (RZon.mono hb), h.2.2.mono hb fun _ _ h => h⟩
theorem cRule : Tryd.prog.cellsOf 52 = 11 := by kernel_rfl
theorem rdRule {H : Type} {enc : TypeId × Value → H} {w : World} {b : Nat} {sp : Nat → Bool} {held : Bool} {fuel : Nat} {cs : List Value} {y : DataW H × List MemPlace} (h : DataW.trod enc Tryd.prog w b sp held fuel 52 cs = some y) :
    ∃ (x_nm : ByteArray) (x_f : Int) (x_t : Int) (x_at_mo : Int) (x_at_d_k : Int) (x_at_d_a : Int) (x_at_d_n : Int) (x_at_t : Int) (x_at_c : Int) (x_sv : Int) (x_lt : ByteArray), cs = [.string x_nm, .int .i64 x_f, .int .i64 x_t, .int .i64 x_at_mo, .int .i64 x_at_d_k, .int .i64 x_at_d_a, .int .i64 x_at_d_n, .int .i64 x_at_t, .int .i64 x_at_c, .int .i64 x_sv, .string x_lt] ∧ x_nm.size ≤ maxLen ∧ (Lit.int .i64 x_f).wf = true ∧ (Lit.int .i64 x_t).wf = true ∧ (Lit.int .i64 x_at_mo).wf = true ∧ (Lit.int .i64 x_at_d_k).wf = true ∧ (Lit.int .i64 x_at_d_a).wf = true ∧ (Lit.int .i64 x_at_d_n).wf = true ∧ (Lit.int .i64 x_at_t).wf = true ∧ (Lit.int .i64 x_at_c).wf = true ∧ (Lit.int .i64 x_sv).wf = true ∧ x_lt.size ≤ maxLen := by
  obtain ⟨hl, hf⟩ := trod_fields Tryd.underlying52 h
  rw [cRule] at hl
  obtain ⟨c0, c1, c2, c3, c4, c5, c6, c7, c8, c9, c10, rfl⟩ : ∃ c0 c1 c2 c3 c4 c5 c6 c7 c8 c9 c10, cs = [c0, c1, c2, c3, c4, c5, c6, c7, c8, c9, c10] := by
    match cs, hl with
    | [c0, c1, c2, c3, c4, c5, c6, c7, c8, c9, c10], _ => exact ⟨c0, c1, c2, c3, c4, c5, c6, c7, c8, c9, c10, rfl⟩
  obtain ⟨m0, z0, h0⟩ := hf 0 _ rfl
  have g0 : DataW.trod enc Tryd.prog w b sp held m0 9 [c0] = some z0 := by simpa [cStr_] using h0
  obtain ⟨x_nm, e0, _, w0⟩ := DataW.trod_string Tryd.underlying9 g0
  simp only [List.cons.injEq, and_true] at e0
  subst e0
  obtain ⟨m1, z1, h1⟩ := hf 1 _ rfl
  have g1 : DataW.trod enc Tryd.prog w b sp held m1 3 [c1] = some z1 := by simpa [cInt_] using h1
  obtain ⟨x_f, e1, _, w1⟩ := DataW.trod_int Tryd.underlying3 g1
  simp only [List.cons.injEq, and_true] at e1
  subst e1
  obtain ⟨m2, z2, h2⟩ := hf 2 _ rfl
  have g2 : DataW.trod enc Tryd.prog w b sp held m2 3 [c2] = some z2 := by simpa [cInt_] using h2
  obtain ⟨x_t, e2, _, w2⟩ := DataW.trod_int Tryd.underlying3 g2
  simp only [List.cons.injEq, and_true] at e2
  subst e2
  obtain ⟨m3, z3, h3⟩ := hf 3 _ rfl
  have g3 : DataW.trod enc Tryd.prog w b sp held m3 34 [c3, c4, c5, c6, c7, c8] = some z3 := by simpa [cMoment] using h3
  obtain ⟨x_at_mo, x_at_d_k, x_at_d_a, x_at_d_n, x_at_t, x_at_c, e3, w3_0, w3_1, w3_2, w3_3, w3_4, w3_5⟩ := rdMoment g3
  simp only [List.cons.injEq, and_true] at e3
  obtain ⟨rfl, rfl, rfl, rfl, rfl, rfl⟩ := e3
  obtain ⟨m4, z4, h4⟩ := hf 4 _ rfl
  have g4 : DataW.trod enc Tryd.prog w b sp held m4 3 [c9] = some z4 := by simpa [cInt_] using h4
  obtain ⟨x_sv, e4, _, w4⟩ := DataW.trod_int Tryd.underlying3 g4
  simp only [List.cons.injEq, and_true] at e4
  subst e4
  obtain ⟨m5, z5, h5⟩ := hf 5 _ rfl
  have g5 : DataW.trod enc Tryd.prog w b sp held m5 9 [c10] = some z5 := by simpa [cStr_] using h5
  obtain ⟨x_lt, e5, _, w5⟩ := DataW.trod_string Tryd.underlying9 g5
  simp only [List.cons.injEq, and_true] at e5
  subst e5
  exact ⟨x_nm, x_f, x_t, x_at_mo, x_at_d_k, x_at_d_a, x_at_d_n, x_at_t, x_at_c, x_sv, x_lt, rfl, w0, w1, w2, w3_0, w3_1, w3_2, w3_3, w3_4, w3_5, w4, w5⟩
theorem openRule {H : Type} {enc : TypeId × Value → H} {w : World} {r : Reach} {b0 b : Nat} {sp : Nat → Bool} {held : Bool} {v : Value} {d : DataW H} {p : List MemPlace} (hv : Value.okWide Tryd.prog w r b0 52 v) (h : DataW.Trod enc Tryd.prog w b sp held 52 v d p) :
    ∃ (x_nm : ByteArray) (x_f : Int) (x_t : Int) (x_at_mo : Int) (x_at_d_k : Int) (x_at_d_a : Int) (x_at_d_n : Int) (x_at_t : Int) (x_at_c : Int) (x_sv : Int) (x_lt : ByteArray), v = .agg #[.string x_nm, .int .i64 x_f, .int .i64 x_t, .int .i64 x_at_mo, .int .i64 x_at_d_k, .int .i64 x_at_d_a, .int .i64 x_at_d_n, .int .i64 x_at_t, .int .i64 x_at_c, .int .i64 x_sv, .string x_lt] ∧ x_nm.size ≤ maxLen ∧ (Lit.int .i64 x_f).wf = true ∧ (Lit.int .i64 x_t).wf = true ∧ (Lit.int .i64 x_at_mo).wf = true ∧ (Lit.int .i64 x_at_d_k).wf = true ∧ (Lit.int .i64 x_at_d_a).wf = true ∧ (Lit.int .i64 x_at_d_n).wf = true ∧ (Lit.int .i64 x_at_t).wf = true ∧ (Lit.int .i64 x_at_c).wf = true ∧ (Lit.int .i64 x_sv).wf = true ∧ x_lt.size ≤ maxLen := by
  obtain ⟨cs, rfl, _⟩ := okWide_struct Tryd.underlying52 hv
  obtain ⟨fuel, hf⟩ := h
  obtain ⟨x_nm, x_f, x_t, x_at_mo, x_at_d_k, x_at_d_a, x_at_d_n, x_at_t, x_at_c, x_sv, x_lt, e, w0, w1, w2, w3, w4, w5, w6, w7, w8, w9, w10⟩ := rdRule hf
  exact ⟨x_nm, x_f, x_t, x_at_mo, x_at_d_k, x_at_d_a, x_at_d_n, x_at_t, x_at_c, x_sv, x_lt, agg_of_toList e, w0, w1, w2, w3, w4, w5, w6, w7, w8, w9, w10⟩
theorem cEra : Tryd.prog.cellsOf 36 = 12 := by kernel_rfl
theorem rdEra {H : Type} {enc : TypeId × Value → H} {w : World} {b : Nat} {sp : Nat → Bool} {held : Bool} {fuel : Nat} {cs : List Value} {y : DataW H × List MemPlace} (h : DataW.trod enc Tryd.prog w b sp held fuel 36 cs = some y) :
    ∃ (x_o : Int) (x_ru : ByteArray) (x_sv : Int) (x_fm : ByteArray) (x_en : Bool) (x_y : Int) (x_un_mo : Int) (x_un_d_k : Int) (x_un_d_a : Int) (x_un_d_n : Int) (x_un_t : Int) (x_un_c : Int), cs = [.int .i64 x_o, .string x_ru, .int .i64 x_sv, .string x_fm, .bool x_en, .int .i64 x_y, .int .i64 x_un_mo, .int .i64 x_un_d_k, .int .i64 x_un_d_a, .int .i64 x_un_d_n, .int .i64 x_un_t, .int .i64 x_un_c] ∧ (Lit.int .i64 x_o).wf = true ∧ x_ru.size ≤ maxLen ∧ (Lit.int .i64 x_sv).wf = true ∧ x_fm.size ≤ maxLen ∧ (Lit.int .i64 x_y).wf = true ∧ (Lit.int .i64 x_un_mo).wf = true ∧ (Lit.int .i64 x_un_d_k).wf = true ∧ (Lit.int .i64 x_un_d_a).wf = true ∧ (Lit.int .i64 x_un_d_n).wf = true ∧ (Lit.int .i64 x_un_t).wf = true ∧ (Lit.int .i64 x_un_c).wf = true := by
  obtain ⟨hl, hf⟩ := trod_fields Tryd.underlying36 h
  rw [cEra] at hl
  obtain ⟨c0, c1, c2, c3, c4, c5, c6, c7, c8, c9, c10, c11, rfl⟩ : ∃ c0 c1 c2 c3 c4 c5 c6 c7 c8 c9 c10 c11, cs = [c0, c1, c2, c3, c4, c5, c6, c7, c8, c9, c10, c11] := by
    match cs, hl with
    | [c0, c1, c2, c3, c4, c5, c6, c7, c8, c9, c10, c11], _ => exact ⟨c0, c1, c2, c3, c4, c5, c6, c7, c8, c9, c10, c11, rfl⟩
  obtain ⟨m0, z0, h0⟩ := hf 0 _ rfl
  have g0 : DataW.trod enc Tryd.prog w b sp held m0 3 [c0] = some z0 := by simpa [cInt_] using h0
  obtain ⟨x_o, e0, _, w0⟩ := DataW.trod_int Tryd.underlying3 g0
  simp only [List.cons.injEq, and_true] at e0
  subst e0
  obtain ⟨m1, z1, h1⟩ := hf 1 _ rfl
  have g1 : DataW.trod enc Tryd.prog w b sp held m1 9 [c1] = some z1 := by simpa [cStr_] using h1
  obtain ⟨x_ru, e1, _, w1⟩ := DataW.trod_string Tryd.underlying9 g1
  simp only [List.cons.injEq, and_true] at e1
  subst e1
  obtain ⟨m2, z2, h2⟩ := hf 2 _ rfl
  have g2 : DataW.trod enc Tryd.prog w b sp held m2 3 [c2] = some z2 := by simpa [cInt_] using h2
  obtain ⟨x_sv, e2, _, w2⟩ := DataW.trod_int Tryd.underlying3 g2
  simp only [List.cons.injEq, and_true] at e2
  subst e2
  obtain ⟨m3, z3, h3⟩ := hf 3 _ rfl
  have g3 : DataW.trod enc Tryd.prog w b sp held m3 9 [c3] = some z3 := by simpa [cStr_] using h3
  obtain ⟨x_fm, e3, _, w3⟩ := DataW.trod_string Tryd.underlying9 g3
  simp only [List.cons.injEq, and_true] at e3
  subst e3
  obtain ⟨m4, z4, h4⟩ := hf 4 _ rfl
  have g4 : DataW.trod enc Tryd.prog w b sp held m4 4 [c4] = some z4 := by simpa [cBool_] using h4
  obtain ⟨x_en, e4, _⟩ := DataW.trod_bool Tryd.underlying4 g4
  simp only [List.cons.injEq, and_true] at e4
  subst e4
  obtain ⟨m5, z5, h5⟩ := hf 5 _ rfl
  have g5 : DataW.trod enc Tryd.prog w b sp held m5 3 [c5] = some z5 := by simpa [cInt_] using h5
  obtain ⟨x_y, e5, _, w5⟩ := DataW.trod_int Tryd.underlying3 g5
  simp only [List.cons.injEq, and_true] at e5
  subst e5
  obtain ⟨m6, z6, h6⟩ := hf 6 _ rfl
  have g6 : DataW.trod enc Tryd.prog w b sp held m6 34 [c6, c7, c8, c9, c10, c11] = some z6 := by simpa [cMoment] using h6
  obtain ⟨x_un_mo, x_un_d_k, x_un_d_a, x_un_d_n, x_un_t, x_un_c, e6, w6_0, w6_1, w6_2, w6_3, w6_4, w6_5⟩ := rdMoment g6
  simp only [List.cons.injEq, and_true] at e6
  obtain ⟨rfl, rfl, rfl, rfl, rfl, rfl⟩ := e6
  exact ⟨x_o, x_ru, x_sv, x_fm, x_en, x_y, x_un_mo, x_un_d_k, x_un_d_a, x_un_d_n, x_un_t, x_un_c, rfl, w0, w1, w2, w3, w5, w6_0, w6_1, w6_2, w6_3, w6_4, w6_5⟩
theorem openEra {H : Type} {enc : TypeId × Value → H} {w : World} {r : Reach} {b0 b : Nat} {sp : Nat → Bool} {held : Bool} {v : Value} {d : DataW H} {p : List MemPlace} (hv : Value.okWide Tryd.prog w r b0 36 v) (h : DataW.Trod enc Tryd.prog w b sp held 36 v d p) :
    ∃ (x_o : Int) (x_ru : ByteArray) (x_sv : Int) (x_fm : ByteArray) (x_en : Bool) (x_y : Int) (x_un_mo : Int) (x_un_d_k : Int) (x_un_d_a : Int) (x_un_d_n : Int) (x_un_t : Int) (x_un_c : Int), v = .agg #[.int .i64 x_o, .string x_ru, .int .i64 x_sv, .string x_fm, .bool x_en, .int .i64 x_y, .int .i64 x_un_mo, .int .i64 x_un_d_k, .int .i64 x_un_d_a, .int .i64 x_un_d_n, .int .i64 x_un_t, .int .i64 x_un_c] ∧ (Lit.int .i64 x_o).wf = true ∧ x_ru.size ≤ maxLen ∧ (Lit.int .i64 x_sv).wf = true ∧ x_fm.size ≤ maxLen ∧ (Lit.int .i64 x_y).wf = true ∧ (Lit.int .i64 x_un_mo).wf = true ∧ (Lit.int .i64 x_un_d_k).wf = true ∧ (Lit.int .i64 x_un_d_a).wf = true ∧ (Lit.int .i64 x_un_d_n).wf = true ∧ (Lit.int .i64 x_un_t).wf = true ∧ (Lit.int .i64 x_un_c).wf = true := by
  obtain ⟨cs, rfl, _⟩ := okWide_struct Tryd.underlying36 hv
  obtain ⟨fuel, hf⟩ := h
  obtain ⟨x_o, x_ru, x_sv, x_fm, x_en, x_y, x_un_mo, x_un_d_k, x_un_d_a, x_un_d_n, x_un_t, x_un_c, e, w0, w1, w2, w3, w4, w5, w6, w7, w8, w9, w10⟩ := rdEra hf
  exact ⟨x_o, x_ru, x_sv, x_fm, x_en, x_y, x_un_mo, x_un_d_k, x_un_d_a, x_un_d_n, x_un_t, x_un_c, agg_of_toList e, w0, w1, w2, w3, w4, w5, w6, w7, w8, w9, w10⟩
section
variable {H : Type} {enc : TypeId × Value → H} {w : World} {b : Nat} {sp : Nat → Bool} {held : Bool} {fuel : Nat} {cs : List Value} {y : DataW H × List MemPlace}
theorem rdRuls (h : DataW.trod enc Tryd.prog w b sp held fuel 22 cs = some y) : ∃ v xs, cs = [v] ∧ SlAt w 11 RRul v xs :=
  slAt_of_trod Tryd.underlying22 cRule (by omega) (fun m cs' z hz => by
    obtain ⟨nm, f, t, mo, k, a, n, ti, c, sv, lt, e, w0, w1, w2, w3, w4, w5, w6, w7, w8, w9, w10⟩ := rdRule hz
    exact ⟨⟨nm, f, t, ⟨mo, k, a, n, ti, c⟩, sv, lt⟩, e, w0, w1, w2, ⟨w3, w4, w5, w6, w7, w8⟩, w9, w10⟩) h
theorem rdEros (h : DataW.trod enc Tryd.prog w b sp held fuel 37 cs = some y) : ∃ v xs, cs = [v] ∧ SlAt w 12 REro v xs :=
  slAt_of_trod Tryd.underlying37 cEra (by omega) (fun m cs' z hz => by
    obtain ⟨o, ru, sv, fm, en, yr, mo, k, a, n, ti, c, e, w0, w1, w2, w3, w4, w5, w6, w7, w8, w9, w10⟩ := rdEra hz
    exact ⟨⟨o, ru, sv, fm, en, yr, ⟨mo, k, a, n, ti, c⟩⟩, e, w0, w1, w2, w3, w4, ⟨w5, w6, w7, w8, w9, w10⟩⟩) h
theorem rdLnks (h : DataW.trod enc Tryd.prog w b sp held fuel 24 cs = some y) : ∃ v xs, cs = [v] ∧ SlAt w 2 RLnk v xs :=
  slAt_of_trod Tryd.underlying24 cLink (by omega) (fun m cs' z hz => by
    obtain ⟨a, n, e, w0, w1⟩ := rdLink hz
    exact ⟨⟨a, n⟩, e, w0, w1⟩) h
theorem cSlEro : Tryd.prog.cellsOf 37 = 1 := by kernel_rfl
theorem cZone : Tryd.prog.cellsOf 39 = 2 := by kernel_rfl
theorem rdZone (h : DataW.trod enc Tryd.prog w b sp held fuel 39 cs = some y) : ∃ z, RZon w cs z := by
  obtain ⟨hl, hf⟩ := trod_fields Tryd.underlying39 h
  rw [cZone] at hl
  obtain ⟨c0, c1, rfl⟩ : ∃ c0 c1, cs = [c0, c1] := by
    match cs, hl with
    | [c0, c1], _ => exact ⟨c0, c1, rfl⟩
  obtain ⟨m0, z0, h0⟩ := hf 0 _ rfl
  have g0 : DataW.trod enc Tryd.prog w b sp held m0 9 [c0] = some z0 := by simpa [cStr_] using h0
  obtain ⟨nm, e0, _, w0⟩ := DataW.trod_string Tryd.underlying9 g0
  obtain ⟨m1, z1, h1⟩ := hf 1 _ rfl
  have g1 : DataW.trod enc Tryd.prog w b sp held m1 37 [c1] = some z1 := by simpa [cSlEro] using h1
  obtain ⟨v, xs, e1, w1⟩ := rdEros g1
  simp only [List.cons.injEq, and_true] at e0 e1
  subst e0 e1
  exact ⟨⟨nm, xs⟩, _, rfl, w1, w0⟩
theorem rdZons (h : DataW.trod enc Tryd.prog w b sp held fuel 23 cs = some y) : ∃ v xs, cs = [v] ∧ SlAt w 2 (RZon w) v xs :=
  slAt_of_trod Tryd.underlying23 cZone (by omega) (fun m cs' z hz => rdZone hz) h
theorem cSlRul : Tryd.prog.cellsOf 22 = 1 := by kernel_rfl
theorem cSlZon : Tryd.prog.cellsOf 23 = 1 := by kernel_rfl
theorem cSlLnk : Tryd.prog.cellsOf 24 = 1 := by kernel_rfl
theorem cSource : Tryd.prog.cellsOf 26 = 3 := by kernel_rfl
theorem rdSource (h : DataW.trod enc Tryd.prog w b sp held fuel 26 cs = some y) : ∃ vr vz vl s, cs = [vr, vz, vl] ∧ SrcAt w vr vz vl s := by
  obtain ⟨hl, hf⟩ := trod_fields Tryd.underlying26 h
  rw [cSource] at hl
  obtain ⟨c0, c1, c2, rfl⟩ : ∃ c0 c1 c2, cs = [c0, c1, c2] := by
    match cs, hl with
    | [c0, c1, c2], _ => exact ⟨c0, c1, c2, rfl⟩
  obtain ⟨m0, z0, h0⟩ := hf 0 _ rfl
  have g0 : DataW.trod enc Tryd.prog w b sp held m0 22 [c0] = some z0 := by simpa [cSlRul] using h0
  obtain ⟨v0, xs, e0, w0⟩ := rdRuls g0
  obtain ⟨m1, z1, h1⟩ := hf 1 _ rfl
  have g1 : DataW.trod enc Tryd.prog w b sp held m1 23 [c1] = some z1 := by simpa [cSlZon] using h1
  obtain ⟨v1, ys, e1, w1⟩ := rdZons g1
  obtain ⟨m2, z2, h2⟩ := hf 2 _ rfl
  have g2 : DataW.trod enc Tryd.prog w b sp held m2 24 [c2] = some z2 := by simpa [cSlLnk] using h2
  obtain ⟨v2, zs, e2, w2⟩ := rdLnks g2
  simp only [List.cons.injEq, and_true] at e0 e1 e2
  subst e0 e1 e2
  exact ⟨_, _, _, ⟨xs, ys, zs⟩, rfl, w0, w1, w2⟩
end
theorem openSource {H : Type} {enc : TypeId × Value → H} {w : World} {r : Reach} {b0 b : Nat} {sp : Nat → Bool} {held : Bool} {v : Value} {d : DataW H} {p : List MemPlace} (hv : Value.okWide Tryd.prog w r b0 26 v) (h : DataW.Trod enc Tryd.prog w b sp held 26 v d p) : ∃ vr vz vl s, v = .agg #[vr, vz, vl] ∧ SrcAt w vr vz vl s := by
  obtain ⟨cs, rfl, _⟩ := okWide_struct Tryd.underlying26 hv
  obtain ⟨fuel, hf⟩ := h
  obtain ⟨vr, vz, vl, s, e, h1⟩ := rdSource hf
  exact ⟨vr, vz, vl, s, agg_of_toList e, h1⟩
end Go.Proofs.YtdpbedkppomffaaDoor
