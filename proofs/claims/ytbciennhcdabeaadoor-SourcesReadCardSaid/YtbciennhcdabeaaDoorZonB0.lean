/-
  Turns in their order, plain: a strict order by what is told and by place; a list in order is the only one of its members; halves that are merged.
  Sources: their rules, zones and links, and how they lie in memory; how one that came in reads.
  Turns put in order by blocks that are merged: plain.
  Zones, plain: what is wrong with a rule, an era, a zone, a source; turns; what is saved; ends; clocks.
-/
import Derived.Test.YtbciennhcdabeaaDoorBase
import Derived.Test.YtbciennhcdabeaaDoorSrcT
namespace Go.Proofs.YtbciennhcdabeaaDoor
set_option linter.unusedVariables false
set_option linter.unusedSimpArgs false

/-- a moment of a year. -/
structure Mom where
  mo : Int
  k : Int
  a : Int
  n : Int
  t : Int
  c : Int
/-- a rule. -/
structure Rul where
  nm : ByteArray
  fr : Int
  to : Int
  at' : Mom
  sv : Int
  lt : ByteArray
/-- a rule in a year: what is told, its place, and the instant. -/
structure Trn where
  r : Rul
  no : Int
  tg : Int
  ins : Int
def tLt (a b : Trn) : Prop := a.no < b.no ∨ (a.no = b.no ∧ a.tg < b.tg)
instance (a b : Trn) : Decidable (tLt a b) := by unfold tLt; exact inferInstance
theorem tLt_trans {a b c : Trn} (h : tLt a b) (g : tLt b c) : tLt a c := by unfold tLt at *; omega
theorem tLt_asymm {a b : Trn} (h : tLt a b) (g : tLt b a) : False := by unfold tLt at *; omega
theorem tLt_irrefl {a : Trn} (h : tLt a a) : False := by unfold tLt at *; omega
theorem tLt_tri {a b : Trn} (h : a.tg ≠ b.tg) : tLt a b ∨ tLt b a := by unfold tLt; omega
/-- in order. -/
def Sd (l : List Trn) : Prop := l.Pairwise tLt
/-- places that rise. -/
def Tg (l : List Trn) : Prop := l.Pairwise fun a b => a.tg < b.tg
/-- places that are different. -/
def Td (l : List Trn) : Prop := l.Pairwise fun a b => a.tg ≠ b.tg
theorem Tg.td {l : List Trn} (h : Tg l) : Td l := h.imp fun h => by omega
theorem Td.perm {l m : List Trn} (h : Td l) (p : l.Perm m) : Td m := (p.pairwise_iff (fun h => Ne.symm h)).1 h
def so (l : List Trn) : List Trn := l.mergeSort fun a b => !decide (tLt b a)
theorem so_perm (l : List Trn) : (so l).Perm l := List.mergeSort_perm _ _
theorem so_len (l : List Trn) : (so l).length = l.length := (so_perm l).length_eq
theorem so_le (l : List Trn) : (so l).Pairwise fun a b => ¬ tLt b a := by
  have h := List.pairwise_mergeSort (le := fun a b => !decide (tLt b a)) (fun a b c h1 h2 => by
    simp only [Bool.not_eq_true', decide_eq_false_iff_not] at *
    unfold tLt at *
    omega) (fun a b => by
    simp only [Bool.or_eq_true, Bool.not_eq_true', decide_eq_false_iff_not]
    unfold tLt
    omega) l
  exact h.imp fun h => by simpa using h
theorem sd_unique : ∀ {l m : List Trn}, l.Perm m → l.Pairwise (fun a b => ¬ tLt b a) → Sd m → l = m
  | [], m, p, _, _ => p.nil_eq
  | x :: l, [], p, _, _ => by simpa using p.length_eq
  | x :: l, y :: m, p, h, g => by
    have hx : x ∈ y :: m := p.subset (by simp)
    have hy : y ∈ x :: l := p.symm.subset (by simp)
    have e : x = y := by
      rcases List.mem_cons.1 hx with e | hx
      · exact e
      · rcases List.mem_cons.1 hy with e | hy
        · exact e.symm
        · exact absurd ((List.pairwise_cons.1 g).1 x hx) ((List.pairwise_cons.1 h).1 y hy)
    subst e
    rw [sd_unique (p.cons_inv) (List.pairwise_cons.1 h).2 (List.pairwise_cons.1 g).2]
theorem so_eq {l m : List Trn} (p : l.Perm m) (h : Sd m) : so l = m := sd_unique ((so_perm l).trans p) (so_le l) h
theorem so_sd {l : List Trn} (h : Td l) : Sd (so l) := by
  have h1 := h.perm (so_perm l).symm
  have h2 := so_le l
  refine (h1.and h2).imp ?_
  rintro a b ⟨x, y⟩
  exact (tLt_tri x).resolve_right y
theorem so_self {l : List Trn} (h : Sd l) : so l = l := so_eq (List.Perm.refl _) h
theorem so_congr {l m : List Trn} (p : l.Perm m) (h : Td l) : so l = so m := so_eq (p.trans (so_perm m).symm) (so_sd (h.perm p))
/-- all of one list are ahead of all of another one, by their places. -/
def Ah (u v : List Trn) : Prop := ∀ x ∈ u, ∀ y ∈ v, x.tg < y.tg
/-- all of one list are ahead of all of another one. -/
def Lo (u v : List Trn) : Prop := ∀ x ∈ u, ∀ y ∈ v, tLt x y
theorem sd_app {u v : List Trn} : Sd (u ++ v) ↔ Sd u ∧ Sd v ∧ Lo u v := List.pairwise_append
theorem lt_key {x y : Trn} (h : x.tg < y.tg) : tLt y x ↔ y.no < x.no := by unfold tLt; omega
theorem nlt_key {x y : Trn} (h : x.tg < y.tg) : tLt x y ↔ ¬ y.no < x.no := by unfold tLt; omega
/-- a part of a list, put in order. -/
def seg (l : List Trn) (a b : Nat) : List Trn := l.take a ++ (so ((l.take b).drop a) ++ l.drop b)
theorem seg_len {l : List Trn} {a b : Nat} (h : a ≤ b) (hb : b ≤ l.length) : (seg l a b).length = l.length := by
  unfold seg
  rw [List.length_append, List.length_append, so_len, List.length_drop, List.length_take, List.length_take, List.length_drop]
  omega
theorem seg_of {p u s m : List Trn} (e : (so u) = m) : seg (p ++ (u ++ s)) p.length (p.length + u.length) = p ++ (m ++ s) := by
  unfold seg
  have h1 : (p ++ (u ++ s)).take (p.length + u.length) = p ++ u := by
    rw [← List.append_assoc, ← List.length_append, List.take_left]
  have h2 : (p ++ (u ++ s)).drop (p.length + u.length) = s := by
    rw [← List.append_assoc, ← List.length_append, List.drop_left]
  rw [h1, h2, List.take_left, List.drop_left, e]
/-- a list, parted at two places. -/
theorem cut3 {α : Type} (l : List α) {a b : Nat} (h : a ≤ b) (hb : b ≤ l.length) : ∃ p u s, l = p ++ (u ++ s) ∧ p.length = a ∧ u.length = b - a ∧ p = l.take a ∧ u = (l.take b).drop a ∧ s = l.drop b := by
  refine ⟨l.take a, (l.take b).drop a, l.drop b, ?_, by rw [List.length_take]; omega, by rw [List.length_drop, List.length_take]; omega, rfl, rfl, rfl⟩
  have h1 : l.take a = (l.take b).take a := by rw [List.take_take]; congr 1; omega
  rw [h1, ← List.append_assoc, List.take_append_drop, List.take_append_drop]
end Go.Proofs.YtbciennhcdabeaaDoor
namespace Go.Proofs.YtbciennhcdabeaaDoor
set_option linter.unusedVariables false
set_option linter.unusedSimpArgs false
set_option maxRecDepth 100000
open Go.ChangeShapes Go.WideShapes Go.ChangeAt Go.RowKit

/-- an era of a zone. -/
structure Ero where
  off : Int
  rl : ByteArray
  sv : Int
  fm : ByteArray
  en : Bool
  yr : Int
  un : Mom
structure Zon where
  nm : ByteArray
  eras : List Ero
structure Lnk where
  of : ByteArray
  nm : ByteArray
structure Src where
  rules : List Rul
  zones : List Zon
  links : List Lnk
def M64 (m : Mom) : Prop := I64 m.mo ∧ I64 m.k ∧ I64 m.a ∧ I64 m.n ∧ I64 m.t ∧ I64 m.c
def RulV (r : Rul) : List Value := [.string r.nm, .int .i64 r.fr, .int .i64 r.to, .int .i64 r.at'.mo, .int .i64 r.at'.k, .int .i64 r.at'.a, .int .i64 r.at'.n, .int .i64 r.at'.t, .int .i64 r.at'.c, .int .i64 r.sv, .string r.lt]
def EroV (x : Ero) : List Value := [.int .i64 x.off, .string x.rl, .int .i64 x.sv, .string x.fm, .bool x.en, .int .i64 x.yr, .int .i64 x.un.mo, .int .i64 x.un.k, .int .i64 x.un.a, .int .i64 x.un.n, .int .i64 x.un.t, .int .i64 x.un.c]
/-- numbers and texts of a rule, of an era, as a machine bears them. -/
def R64 (r : Rul) : Prop := r.nm.size ≤ maxLen ∧ I64 r.fr ∧ I64 r.to ∧ M64 r.at' ∧ I64 r.sv ∧ r.lt.size ≤ maxLen
def E64 (x : Ero) : Prop := I64 x.off ∧ x.rl.size ≤ maxLen ∧ I64 x.sv ∧ x.fm.size ≤ maxLen ∧ I64 x.yr ∧ M64 x.un
def RRul (cs : List Value) (r : Rul) : Prop := cs = RulV r ∧ R64 r
def REro (cs : List Value) (x : Ero) : Prop := cs = EroV x ∧ E64 x
def RZon (w : World) (cs : List Value) (z : Zon) : Prop := ∃ v, cs = [.string z.nm, v] ∧ SlAt w 12 REro v z.eras ∧ z.nm.size ≤ maxLen
def RLnk (cs : List Value) (l : Lnk) : Prop := cs = [.string l.of, .string l.nm] ∧ l.of.size ≤ maxLen ∧ l.nm.size ≤ maxLen
theorem RZon.mono {w w' : World} (hb : Below w.heap.size w w') (cs : List Value) (x : Zon) (h : RZon w cs x) : RZon w' cs x := by
  obtain ⟨v, h1, h2, h3⟩ := h
  exact ⟨v, h1, h2.mono hb fun _ _ h => h, h3⟩
def SrcAt (w : World) (vr vz vl : Value) (s : Src) : Prop := SlAt w 11 RRul vr s.rules ∧ SlAt w 2 (RZon w) vz s.zones ∧ SlAt w 2 RLnk vl s.links
theorem SrcAt.mono {w w' : World} {vr vz vl : Value} {s : Src} (h : SrcAt w vr vz vl s) (hb : Below w.heap.size w w') : SrcAt w' vr vz vl s :=
  ⟨h.1.mono hb fun _ _ h => h, h.2.1.mono hb (RZon.mono hb), h.2.2.mono hb fun _ _ h => h⟩
theorem cRule : Tryd.prog.cellsOf 62 = 11 := by kernel_rfl
theorem rdRule {H : Type} {enc : TypeId × Value → H} {w : World} {b : Nat} {sp : Nat → Bool} {held : Bool} {fuel : Nat} {cs : List Value} {y : DataW H × List MemPlace} (h : DataW.trod enc Tryd.prog w b sp held fuel 62 cs = some y) :
    ∃ (x_nm : ByteArray) (x_f : Int) (x_t : Int) (x_at_mo : Int) (x_at_d_k : Int) (x_at_d_a : Int) (x_at_d_n : Int) (x_at_t : Int) (x_at_c : Int) (x_sv : Int) (x_lt : ByteArray), cs = [.string x_nm, .int .i64 x_f, .int .i64 x_t, .int .i64 x_at_mo, .int .i64 x_at_d_k, .int .i64 x_at_d_a, .int .i64 x_at_d_n, .int .i64 x_at_t, .int .i64 x_at_c, .int .i64 x_sv, .string x_lt] ∧ x_nm.size ≤ maxLen ∧ (Lit.int .i64 x_f).wf = true ∧ (Lit.int .i64 x_t).wf = true ∧ (Lit.int .i64 x_at_mo).wf = true ∧ (Lit.int .i64 x_at_d_k).wf = true ∧ (Lit.int .i64 x_at_d_a).wf = true ∧ (Lit.int .i64 x_at_d_n).wf = true ∧ (Lit.int .i64 x_at_t).wf = true ∧ (Lit.int .i64 x_at_c).wf = true ∧ (Lit.int .i64 x_sv).wf = true ∧ x_lt.size ≤ maxLen := by
  obtain ⟨hl, hf⟩ := trod_fields Tryd.underlying62 h
  rw [cRule] at hl
  obtain ⟨c0, c1, c2, c3, c4, c5, c6, c7, c8, c9, c10, rfl⟩ : ∃ c0 c1 c2 c3 c4 c5 c6 c7 c8 c9 c10, cs = [c0, c1, c2, c3, c4, c5, c6, c7, c8, c9, c10] := by
    match cs, hl with
    | [c0, c1, c2, c3, c4, c5, c6, c7, c8, c9, c10], _ => exact ⟨c0, c1, c2, c3, c4, c5, c6, c7, c8, c9, c10, rfl⟩
  obtain ⟨m0, z0, h0⟩ := hf 0 _ rfl
  have g0 : DataW.trod enc Tryd.prog w b sp held m0 9 [c0] = some z0 := by simpa [cStr_] using h0
  obtain ⟨x_nm, e0, _, w0⟩ := DataW.trod_string Tryd.underlying9 g0
  simp only [List.cons.injEq, and_true] at e0
  subst e0
  obtain ⟨m1, z1, h1⟩ := hf 1 _ rfl
  have g1 : DataW.trod enc Tryd.prog w b sp held m1 3 [c1] = some z1 := by simpa [cInt_] using h1
  obtain ⟨x_f, e1, _, w1⟩ := DataW.trod_int Tryd.underlying3 g1
  simp only [List.cons.injEq, and_true] at e1
  subst e1
  obtain ⟨m2, z2, h2⟩ := hf 2 _ rfl
  have g2 : DataW.trod enc Tryd.prog w b sp held m2 3 [c2] = some z2 := by simpa [cInt_] using h2
  obtain ⟨x_t, e2, _, w2⟩ := DataW.trod_int Tryd.underlying3 g2
  simp only [List.cons.injEq, and_true] at e2
  subst e2
  obtain ⟨m3, z3, h3⟩ := hf 3 _ rfl
  have g3 : DataW.trod enc Tryd.prog w b sp held m3 60 [c3, c4, c5, c6, c7, c8] = some z3 := by simpa [cMoment] using h3
  obtain ⟨x_at_mo, x_at_d_k, x_at_d_a, x_at_d_n, x_at_t, x_at_c, e3, w3_0, w3_1, w3_2, w3_3, w3_4, w3_5⟩ := rdMoment g3
  simp only [List.cons.injEq, and_true] at e3
  obtain ⟨rfl, rfl, rfl, rfl, rfl, rfl⟩ := e3
  obtain ⟨m4, z4, h4⟩ := hf 4 _ rfl
  have g4 : DataW.trod enc Tryd.prog w b sp held m4 3 [c9] = some z4 := by simpa [cInt_] using h4
  obtain ⟨x_sv, e4, _, w4⟩ := DataW.trod_int Tryd.underlying3 g4
  simp only [List.cons.injEq, and_true] at e4
  subst e4
  obtain ⟨m5, z5, h5⟩ := hf 5 _ rfl
  have g5 : DataW.trod enc Tryd.prog w b sp held m5 9 [c10] = some z5 := by simpa [cStr_] using h5
  obtain ⟨x_lt, e5, _, w5⟩ := DataW.trod_string Tryd.underlying9 g5
  simp only [List.cons.injEq, and_true] at e5
  subst e5
  exact ⟨x_nm, x_f, x_t, x_at_mo, x_at_d_k, x_at_d_a, x_at_d_n, x_at_t, x_at_c, x_sv, x_lt, rfl, w0, w1, w2, w3_0, w3_1, w3_2, w3_3, w3_4, w3_5, w4, w5⟩
theorem openRule {H : Type} {enc : TypeId × Value → H} {w : World} {r : Reach} {b0 b : Nat} {sp : Nat → Bool} {held : Bool} {v : Value} {d : DataW H} {p : List MemPlace} (hv : Value.okWide Tryd.prog w r b0 62 v) (h : DataW.Trod enc Tryd.prog w b sp held 62 v d p) :
    ∃ (x_nm : ByteArray) (x_f : Int) (x_t : Int) (x_at_mo : Int) (x_at_d_k : Int) (x_at_d_a : Int) (x_at_d_n : Int) (x_at_t : Int) (x_at_c : Int) (x_sv : Int) (x_lt : ByteArray), v = .agg #[.string x_nm, .int .i64 x_f, .int .i64 x_t, .int .i64 x_at_mo, .int .i64 x_at_d_k, .int .i64 x_at_d_a, .int .i64 x_at_d_n, .int .i64 x_at_t, .int .i64 x_at_c, .int .i64 x_sv, .string x_lt] ∧ x_nm.size ≤ maxLen ∧ (Lit.int .i64 x_f).wf = true ∧ (Lit.int .i64 x_t).wf = true ∧ (Lit.int .i64 x_at_mo).wf = true ∧ (Lit.int .i64 x_at_d_k).wf = true ∧ (Lit.int .i64 x_at_d_a).wf = true ∧ (Lit.int .i64 x_at_d_n).wf = true ∧ (Lit.int .i64 x_at_t).wf = true ∧ (Lit.int .i64 x_at_c).wf = true ∧ (Lit.int .i64 x_sv).wf = true ∧ x_lt.size ≤ maxLen := by
  obtain ⟨cs, rfl, _⟩ := okWide_struct Tryd.underlying62 hv
  obtain ⟨fuel, hf⟩ := h
  obtain ⟨x_nm, x_f, x_t, x_at_mo, x_at_d_k, x_at_d_a, x_at_d_n, x_at_t, x_at_c, x_sv, x_lt, e, w0, w1, w2, w3, w4, w5, w6, w7, w8, w9, w10⟩ := rdRule hf
  exact ⟨x_nm, x_f, x_t, x_at_mo, x_at_d_k, x_at_d_a, x_at_d_n, x_at_t, x_at_c, x_sv, x_lt, agg_of_toList e, w0, w1, w2, w3, w4, w5, w6, w7, w8, w9, w10⟩
theorem cEra : Tryd.prog.cellsOf 67 = 12 := by kernel_rfl
theorem rdEra {H : Type} {enc : TypeId × Value → H} {w : World} {b : Nat} {sp : Nat → Bool} {held : Bool} {fuel : Nat} {cs : List Value} {y : DataW H × List MemPlace} (h : DataW.trod enc Tryd.prog w b sp held fuel 67 cs = some y) :
    ∃ (x_o : Int) (x_ru : ByteArray) (x_sv : Int) (x_fm : ByteArray) (x_en : Bool) (x_y : Int) (x_un_mo : Int) (x_un_d_k : Int) (x_un_d_a : Int) (x_un_d_n : Int) (x_un_t : Int) (x_un_c : Int), cs = [.int .i64 x_o, .string x_ru, .int .i64 x_sv, .string x_fm, .bool x_en, .int .i64 x_y, .int .i64 x_un_mo, .int .i64 x_un_d_k, .int .i64 x_un_d_a, .int .i64 x_un_d_n, .int .i64 x_un_t, .int .i64 x_un_c] ∧ (Lit.int .i64 x_o).wf = true ∧ x_ru.size ≤ maxLen ∧ (Lit.int .i64 x_sv).wf = true ∧ x_fm.size ≤ maxLen ∧ (Lit.int .i64 x_y).wf = true ∧ (Lit.int .i64 x_un_mo).wf = true ∧ (Lit.int .i64 x_un_d_k).wf = true ∧ (Lit.int .i64 x_un_d_a).wf = true ∧ (Lit.int .i64 x_un_d_n).wf = true ∧ (Lit.int .i64 x_un_t).wf = true ∧ (Lit.int .i64 x_un_c).wf = true := by
  obtain ⟨hl, hf⟩ := trod_fields Tryd.underlying67 h
  rw [cEra] at hl
  obtain ⟨c0, c1, c2, c3, c4, c5, c6, c7, c8, c9, c10, c11, rfl⟩ : ∃ c0 c1 c2 c3 c4 c5 c6 c7 c8 c9 c10 c11, cs = [c0, c1, c2, c3, c4, c5, c6, c7, c8, c9, c10, c11] := by
    match cs, hl with
    | [c0, c1, c2, c3, c4, c5, c6, c7, c8, c9, c10, c11], _ => exact ⟨c0, c1, c2, c3, c4, c5, c6, c7, c8, c9, c10, c11, rfl⟩
  obtain ⟨m0, z0, h0⟩ := hf 0 _ rfl
  have g0 : DataW.trod enc Tryd.prog w b sp held m0 3 [c0] = some z0 := by simpa [cInt_] using h0
  obtain ⟨x_o, e0, _, w0⟩ := DataW.trod_int Tryd.underlying3 g0
  simp only [List.cons.injEq, and_true] at e0
  subst e0
  obtain ⟨m1, z1, h1⟩ := hf 1 _ rfl
  have g1 : DataW.trod enc Tryd.prog w b sp held m1 9 [c1] = some z1 := by simpa [cStr_] using h1
  obtain ⟨x_ru, e1, _, w1⟩ := DataW.trod_string Tryd.underlying9 g1
  simp only [List.cons.injEq, and_true] at e1
  subst e1
  obtain ⟨m2, z2, h2⟩ := hf 2 _ rfl
  have g2 : DataW.trod enc Tryd.prog w b sp held m2 3 [c2] = some z2 := by simpa [cInt_] using h2
  obtain ⟨x_sv, e2, _, w2⟩ := DataW.trod_int Tryd.underlying3 g2
  simp only [List.cons.injEq, and_true] at e2
  subst e2
  obtain ⟨m3, z3, h3⟩ := hf 3 _ rfl
  have g3 : DataW.trod enc Tryd.prog w b sp held m3 9 [c3] = some z3 := by simpa [cStr_] using h3
  obtain ⟨x_fm, e3, _, w3⟩ := DataW.trod_string Tryd.underlying9 g3
  simp only [List.cons.injEq, and_true] at e3
  subst e3
  obtain ⟨m4, z4, h4⟩ := hf 4 _ rfl
  have g4 : DataW.trod enc Tryd.prog w b sp held m4 4 [c4] = some z4 := by simpa [cBool_] using h4
  obtain ⟨x_en, e4, _⟩ := DataW.trod_bool Tryd.underlying4 g4
  simp only [List.cons.injEq, and_true] at e4
  subst e4
  obtain ⟨m5, z5, h5⟩ := hf 5 _ rfl
  have g5 : DataW.trod enc Tryd.prog w b sp held m5 3 [c5] = some z5 := by simpa [cInt_] using h5
  obtain ⟨x_y, e5, _, w5⟩ := DataW.trod_int Tryd.underlying3 g5
  simp only [List.cons.injEq, and_true] at e5
  subst e5
  obtain ⟨m6, z6, h6⟩ := hf 6 _ rfl
  have g6 : DataW.trod enc Tryd.prog w b sp held m6 60 [c6, c7, c8, c9, c10, c11] = some z6 := by simpa [cMoment] using h6
  obtain ⟨x_un_mo, x_un_d_k, x_un_d_a, x_un_d_n, x_un_t, x_un_c, e6, w6_0, w6_1, w6_2, w6_3, w6_4, w6_5⟩ := rdMoment g6
  simp only [List.cons.injEq, and_true] at e6
  obtain ⟨rfl, rfl, rfl, rfl, rfl, rfl⟩ := e6
  exact ⟨x_o, x_ru, x_sv, x_fm, x_en, x_y, x_un_mo, x_un_d_k, x_un_d_a, x_un_d_n, x_un_t, x_un_c, rfl, w0, w1, w2, w3, w5, w6_0, w6_1, w6_2, w6_3, w6_4, w6_5⟩
theorem openEra {H : Type} {enc : TypeId × Value → H} {w : World} {r : Reach} {b0 b : Nat} {sp : Nat → Bool} {held : Bool} {v : Value} {d : DataW H} {p : List MemPlace} (hv : Value.okWide Tryd.prog w r b0 67 v) (h : DataW.Trod enc Tryd.prog w b sp held 67 v d p) :
    ∃ (x_o : Int) (x_ru : ByteArray) (x_sv : Int) (x_fm : ByteArray) (x_en : Bool) (x_y : Int) (x_un_mo : Int) (x_un_d_k : Int) (x_un_d_a : Int) (x_un_d_n : Int) (x_un_t : Int) (x_un_c : Int), v = .agg #[.int .i64 x_o, .string x_ru, .int .i64 x_sv, .string x_fm, .bool x_en, .int .i64 x_y, .int .i64 x_un_mo, .int .i64 x_un_d_k, .int .i64 x_un_d_a, .int .i64 x_un_d_n, .int .i64 x_un_t, .int .i64 x_un_c] ∧ (Lit.int .i64 x_o).wf = true ∧ x_ru.size ≤ maxLen ∧ (Lit.int .i64 x_sv).wf = true ∧ x_fm.size ≤ maxLen ∧ (Lit.int .i64 x_y).wf = true ∧ (Lit.int .i64 x_un_mo).wf = true ∧ (Lit.int .i64 x_un_d_k).wf = true ∧ (Lit.int .i64 x_un_d_a).wf = true ∧ (Lit.int .i64 x_un_d_n).wf = true ∧ (Lit.int .i64 x_un_t).wf = true ∧ (Lit.int .i64 x_un_c).wf = true := by
  obtain ⟨cs, rfl, _⟩ := okWide_struct Tryd.underlying67 hv
  obtain ⟨fuel, hf⟩ := h
  obtain ⟨x_o, x_ru, x_sv, x_fm, x_en, x_y, x_un_mo, x_un_d_k, x_un_d_a, x_un_d_n, x_un_t, x_un_c, e, w0, w1, w2, w3, w4, w5, w6, w7, w8, w9, w10⟩ := rdEra hf
  exact ⟨x_o, x_ru, x_sv, x_fm, x_en, x_y, x_un_mo, x_un_d_k, x_un_d_a, x_un_d_n, x_un_t, x_un_c, agg_of_toList e, w0, w1, w2, w3, w4, w5, w6, w7, w8, w9, w10⟩
section
variable {H : Type} {enc : TypeId × Value → H} {w : World} {b : Nat} {sp : Nat → Bool} {held : Bool} {fuel : Nat} {cs : List Value} {y : DataW H × List MemPlace}
theorem rdRuls (h : DataW.trod enc Tryd.prog w b sp held fuel 24 cs = some y) : ∃ v xs, cs = [v] ∧ SlAt w 11 RRul v xs :=
  slAt_of_trod Tryd.underlying24 cRule (by omega) (fun m cs' z hz => by
    obtain ⟨nm, f, t, mo, k, a, n, ti, c, sv, lt, e, w0, w1, w2, w3, w4, w5, w6, w7, w8, w9, w10⟩ := rdRule hz
    exact ⟨⟨nm, f, t, ⟨mo, k, a, n, ti, c⟩, sv, lt⟩, e, w0, w1, w2, ⟨w3, w4, w5, w6, w7, w8⟩, w9, w10⟩) h
theorem rdEros (h : DataW.trod enc Tryd.prog w b sp held fuel 33 cs = some y) : ∃ v xs, cs = [v] ∧ SlAt w 12 REro v xs :=
  slAt_of_trod Tryd.underlying33 cEra (by omega) (fun m cs' z hz => by
    obtain ⟨o, ru, sv, fm, en, yr, mo, k, a, n, ti, c, e, w0, w1, w2, w3, w4, w5, w6, w7, w8, w9, w10⟩ := rdEra hz
    exact ⟨⟨o, ru, sv, fm, en, yr, ⟨mo, k, a, n, ti, c⟩⟩, e, w0, w1, w2, w3, w4, ⟨w5, w6, w7, w8, w9, w10⟩⟩) h
theorem rdLnks (h : DataW.trod enc Tryd.prog w b sp held fuel 26 cs = some y) : ∃ v xs, cs = [v] ∧ SlAt w 2 RLnk v xs :=
  slAt_of_trod Tryd.underlying26 cLink (by omega) (fun m cs' z hz => by
    obtain ⟨a, n, e, w0, w1⟩ := rdLink hz
    exact ⟨⟨a, n⟩, e, w0, w1⟩) h
theorem cSlEro : Tryd.prog.cellsOf 33 = 1 := by kernel_rfl
theorem cZone : Tryd.prog.cellsOf 35 = 2 := by kernel_rfl
theorem rdZone (h : DataW.trod enc Tryd.prog w b sp held fuel 35 cs = some y) : ∃ z, RZon w cs z := by
  obtain ⟨hl, hf⟩ := trod_fields Tryd.underlying35 h
  rw [cZone] at hl
  obtain ⟨c0, c1, rfl⟩ : ∃ c0 c1, cs = [c0, c1] := by
    match cs, hl with
    | [c0, c1], _ => exact ⟨c0, c1, rfl⟩
  obtain ⟨m0, z0, h0⟩ := hf 0 _ rfl
  have g0 : DataW.trod enc Tryd.prog w b sp held m0 9 [c0] = some z0 := by simpa [cStr_] using h0
  obtain ⟨nm, e0, _, w0⟩ := DataW.trod_string Tryd.underlying9 g0
  obtain ⟨m1, z1, h1⟩ := hf 1 _ rfl
  have g1 : DataW.trod enc Tryd.prog w b sp held m1 33 [c1] = some z1 := by simpa [cSlEro] using h1
  obtain ⟨v, xs, e1, w1⟩ := rdEros g1
  simp only [List.cons.injEq, and_true] at e0 e1
  subst e0 e1
  exact ⟨⟨nm, xs⟩, _, rfl, w1, w0⟩
theorem rdZons (h : DataW.trod enc Tryd.prog w b sp held fuel 25 cs = some y) : ∃ v xs, cs = [v] ∧ SlAt w 2 (RZon w) v xs :=
  slAt_of_trod Tryd.underlying25 cZone (by omega) (fun m cs' z hz => rdZone hz) h
theorem cSlRul : Tryd.prog.cellsOf 24 = 1 := by kernel_rfl
theorem cSlZon : Tryd.prog.cellsOf 25 = 1 := by kernel_rfl
theorem cSlLnk : Tryd.prog.cellsOf 26 = 1 := by kernel_rfl
theorem cSource : Tryd.prog.cellsOf 28 = 3 := by kernel_rfl
theorem rdSource (h : DataW.trod enc Tryd.prog w b sp held fuel 28 cs = some y) : ∃ vr vz vl s, cs = [vr, vz, vl] ∧ SrcAt w vr vz vl s := by
  obtain ⟨hl, hf⟩ := trod_fields Tryd.underlying28 h
  rw [cSource] at hl
  obtain ⟨c0, c1, c2, rfl⟩ : ∃ c0 c1 c2, cs = [c0, c1, c2] := by
    match cs, hl with
    | [c0, c1, c2], _ => exact ⟨c0, c1, c2, rfl⟩
  obtain ⟨m0, z0, h0⟩ := hf 0 _ rfl
  have g0 : DataW.trod enc Tryd.prog w b sp held m0 24 [c0] = some z0 := by simpa [cSlRul] using h0
  obtain ⟨v0, xs, e0, w0⟩ := rdRuls g0
  obtain ⟨m1, z1, h1⟩ := hf 1 _ rfl
  have g1 : DataW.trod enc Tryd.prog w b sp held m1 25 [c1] = some z1 := by simpa [cSlZon] using h1
  obtain ⟨v1, ys, e1, w1⟩ := rdZons g1
  obtain ⟨m2, z2, h2⟩ := hf 2 _ rfl
  have g2 : DataW.trod enc Tryd.prog w b sp held m2 26 [c2] = some z2 := by simpa [cSlLnk] using h2
  obtain ⟨v2, zs, e2, w2⟩ := rdLnks g2
  simp only [List.cons.injEq, and_true] at e0 e1 e2
  subst e0 e1 e2
  exact ⟨_, _, _, ⟨xs, ys, zs⟩, rfl, w0, w1, w2⟩
end
theorem openSource {H : Type} {enc : TypeId × Value → H} {w : World} {r : Reach} {b0 b : Nat} {sp : Nat → Bool} {held : Bool} {v : Value} {d : DataW H} {p : List MemPlace} (hv : Value.okWide Tryd.prog w r b0 28 v) (h : DataW.Trod enc Tryd.prog w b sp held 28 v d p) : ∃ vr vz vl s, v = .agg #[vr, vz, vl] ∧ SrcAt w vr vz vl s := by
  obtain ⟨cs, rfl, _⟩ := okWide_struct Tryd.underlying28 hv
  obtain ⟨fuel, hf⟩ := h
  obtain ⟨vr, vz, vl, s, e, h1⟩ := rdSource hf
  exact ⟨vr, vz, vl, s, agg_of_toList e, h1⟩
end Go.Proofs.YtbciennhcdabeaaDoor
namespace Go.Proofs.YtbciennhcdabeaaDoor
set_option linter.unusedVariables false
set_option linter.unusedSimpArgs false

theorem Sd.td {l : List Trn} (h : Sd l) (g : Td l) : Td l := g
/-- halves whose parts are told apart by one number. -/
theorem sym_done {u1 u2 v1 v2 : List Trn} (hU : Sd (u1 ++ u2)) (hV : Sd (v1 ++ v2)) (hA : Ah (u1 ++ u2) (v1 ++ v2)) (h1 : Lo u1 v2) (h2 : Lo v1 u2) (hu : Td (u1 ++ u2)) (hv : Td (v1 ++ v2)) :
    so ((u1 ++ u2) ++ (v1 ++ v2)) = so (u1 ++ v1) ++ so (u2 ++ v2) := by
  obtain ⟨a1, a2, a3⟩ := sd_app.1 hU
  obtain ⟨b1, b2, b3⟩ := sd_app.1 hV
  have td : Td ((u1 ++ u2) ++ (v1 ++ v2)) := List.pairwise_append.2 ⟨hu, hv, fun x hx y hy => by have := hA x hx y hy; omega⟩
  have p : ((u1 ++ u2) ++ (v1 ++ v2)).Perm ((u1 ++ v1) ++ (u2 ++ v2)) := by
    rw [List.append_assoc, List.append_assoc]
    refine List.Perm.append_left u1 ?_
    rw [← List.append_assoc, ← List.append_assoc]
    exact List.Perm.append_right v2 List.perm_append_comm
  have td2 := td.perm p
  obtain ⟨t1, t2, -⟩ := List.pairwise_append.1 td2
  refine so_eq (p.trans ((so_perm _).symm.append (so_perm _).symm)) (sd_app.2 ⟨so_sd t1, so_sd t2, fun x hx y hy => ?_⟩)
  have hx := (so_perm _).subset hx
  have hy := (so_perm _).subset hy
  rcases List.mem_append.1 hx with hx | hx <;> rcases List.mem_append.1 hy with hy | hy
  · exact a3 x hx y hy
  · exact h1 x hx y hy
  · exact h2 x hx y hy
  · exact b3 x hx y hy
/-- blocks of k, each in order. -/
def bsL (k : Nat) (l : List Trn) : List Trn := if h : l.length ≤ k ∨ k = 0 then so l else so (l.take k) ++ bsL k (l.drop k)
termination_by l.length
decreasing_by rw [List.length_drop]; omega
theorem bsL_low {k : Nat} {l : List Trn} (h : l.length ≤ k) : bsL k l = so l := by
  unfold bsL
  rw [dif_pos (.inl h)]
theorem bsL_high {k : Nat} {l : List Trn} (h : k < l.length) (hk : 0 < k) : bsL k l = so (l.take k) ++ bsL k (l.drop k) := by
  rw [bsL.eq_1]
  rw [dif_neg (by omega)]
theorem bsL_len (k : Nat) (l : List Trn) : (bsL k l).length = l.length := by
  generalize hn : l.length = n
  induction n using Nat.strongRecOn generalizing l with
  | _ n ih =>
    by_cases h : l.length ≤ k ∨ k = 0
    · unfold bsL
      rw [dif_pos h, so_len, hn]
    · rw [bsL_high (by omega) (by omega), List.length_append, so_len, List.length_take, ih (l.drop k).length (by rw [List.length_drop]; omega) _ rfl, List.length_drop]
      omega
/-- a block more, at once: even if it is the last one. -/
theorem bsL_step {k : Nat} {l : List Trn} (h : k ≤ l.length) (hk : 0 < k) : bsL k l = so (l.take k) ++ bsL k (l.drop k) := by
  rcases Nat.lt_or_ge k l.length with h1 | h1
  · exact bsL_high h1 hk
  · rw [bsL_low h1, List.take_of_length_le h1, List.drop_of_length_le h1, bsL_low (by simp)]
    simp [so]
theorem so_two {u v : List Trn} (h : Td (u ++ v)) : so (so u ++ so v) = so (u ++ v) :=
  so_congr ((so_perm u).append (so_perm v)) (h.perm ((so_perm u).append (so_perm v)).symm)
theorem bs_pair {k : Nat} {l : List Trn} (h : 2 * k ≤ l.length) (hk : 0 < k) : bsL k l = so (l.take k) ++ (so ((l.drop k).take k) ++ bsL k (l.drop (2 * k))) := by
  rw [bsL_step (by omega) hk, bsL_step (by rw [List.length_drop]; omega) hk, List.drop_drop, show k + k = 2 * k by omega]
theorem bs_rest {k : Nat} {l : List Trn} (h : k < l.length) (h2 : l.length < 2 * k) : bsL k l = so (l.take k) ++ so (l.drop k) := by
  rw [bsL_high h (by omega), bsL_low (by rw [List.length_drop]; omega)]
theorem take_two {l : List Trn} (k : Nat) : l.take k ++ (l.drop k).take k = l.take (2 * k) := by
  rw [show 2 * k = k + k by omega, List.take_add]
end Go.Proofs.YtbciennhcdabeaaDoor
namespace Go.Proofs.YtbciennhcdabeaaDoor
set_option linter.unusedVariables false
set_option linter.unusedSimpArgs false
open Go.ChangeShapes Go.WideShapes Go.ChangeAt Go.RowKit Civ

def rulE (r : Rul) : Int :=
  if nameS r.nm = false ∨ letsB r.lt = false then 4
  else if r.fr < 1900 ∨ 2099 < r.to ∨ 2099 < r.fr ∨ r.to < 1900 ∨ r.sv < -86400 ∨ 86400 < r.sv then 2
  else if r.to < r.fr then 8
  else chkM r.at'.mo r.at'.k r.at'.a r.at'.n r.at'.t r.at'.c
theorem rulE_zero {r : Rul} (h : rulE r = 0) : nameS r.nm = true ∧ letsB r.lt = true ∧ 1900 ≤ r.fr ∧ r.fr ≤ r.to ∧ r.to ≤ 2099 ∧ -86400 ≤ r.sv ∧ r.sv ≤ 86400 ∧ chkM r.at'.mo r.at'.k r.at'.a r.at'.n r.at'.t r.at'.c = 0 := by
  unfold rulE at h
  split at h
  · cases h
  · rename_i h1
    split at h
    · cases h
    · rename_i h2
      split at h
      · cases h
      · rename_i h3
        have e1 : nameS r.nm = true := by rcases hn : nameS r.nm with _ | _; exact absurd (.inl hn) h1; rfl
        have e2 : letsB r.lt = true := by rcases hn : letsB r.lt with _ | _; exact absurd (.inr hn) h1; rfl
        exact ⟨e1, e2, by omega, by omega, by omega, by omega, by omega, h⟩
/-- are there rules of a name? -/
def namedB (rules : List Rul) (n : ByteArray) : Bool := rules.any fun r => decide (r.nm = n)
def fdE (r : Rul) (y : Int) : Int := fndE y r.at'.mo r.at'.k r.at'.a r.at'.n
def fdN (r : Rul) (y : Int) : Int := fnd y r.at'.mo r.at'.k r.at'.a r.at'.n
def addY (r : Rul) (out : List Trn) (y : Int) : List Trn := if fdE r y = 0 then out ++ [⟨r, fdN r y * 86400 + r.at'.t, (out.length : Int), 0⟩] else out
/-- the first so many years of a rule. -/
def addK (r : Rul) (out : List Trn) : Nat → List Trn
  | 0 => out
  | k + 1 => addY r (addK r out k) (r.fr + k)
def addR (n : ByteArray) (out : List Trn) (r : Rul) : List Trn := if r.nm = n then addK r out (r.to - r.fr + 1).toNat else out
def trn0 (rules : List Rul) (n : ByteArray) : List Trn := rules.foldl (addR n) []
theorem trn0_snoc (rules : List Rul) (n : ByteArray) (k : Nat) (h : k < rules.length) : trn0 (rules.take (k + 1)) n = addR n (trn0 (rules.take k) n) rules[k] := by
  unfold trn0
  rw [List.take_succ_eq_append_getElem h, List.foldl_append]
  rfl
/-- places are their own, and all that a turn says is within bounds. -/
structure TOk (R : Rul → Prop) (l : List Trn) : Prop where
  tg : ∀ i (h : i < l.length), l[i].tg = i
  rl : ∀ x ∈ l, R x.r
  no : ∀ x ∈ l, -2250000000 ≤ x.no ∧ x.no ≤ 4150000000
theorem TOk.nil (R : Rul → Prop) : TOk R [] := ⟨fun i h => absurd h (by simp), fun _ h => (by cases h), fun _ h => (by cases h)⟩
theorem addY_ok {R : Rul → Prop} {r : Rul} {l : List Trn} (h : TOk R l) (hr : R r) (ht : 0 ≤ r.at'.t ∧ r.at'.t ≤ 604800) (y : Int) : TOk R (addY r l y) := by
  unfold addY
  split
  · rename_i h0
    have hb := fnd_bd y r.at'.mo r.at'.k r.at'.a r.at'.n h0
    refine ⟨fun i hi => ?_, fun x hx => ?_, fun x hx => ?_⟩
    · rw [List.length_append, List.length_singleton] at hi
      by_cases hlt : i < l.length
      · rw [List.getElem_append_left hlt]; exact h.tg i hlt
      · obtain rfl : i = l.length := by omega
        simp
    · rcases List.mem_append.1 hx with hx | hx
      · exact h.rl x hx
      · obtain rfl := List.mem_singleton.1 hx; exact hr
    · rcases List.mem_append.1 hx with hx | hx
      · exact h.no x hx
      · obtain rfl := List.mem_singleton.1 hx
        show -2250000000 ≤ fdN r y * 86400 + r.at'.t ∧ fdN r y * 86400 + r.at'.t ≤ 4150000000 + 0
        unfold fdN
        omega
  · exact h
theorem addY_len (r : Rul) (l : List Trn) (y : Int) : (addY r l y).length ≤ l.length + 1 ∧ l.length ≤ (addY r l y).length := by
  unfold addY
  split
  · rw [List.length_append, List.length_singleton]; omega
  · omega
theorem addK_ok {R : Rul → Prop} {r : Rul} {l : List Trn} (h : TOk R l) (hr : R r) (ht : 0 ≤ r.at'.t ∧ r.at'.t ≤ 604800) : ∀ k : Nat, TOk R (addK r l k)
  | 0 => h
  | k + 1 => addY_ok (addK_ok h hr ht k) hr ht _
theorem addK_len (r : Rul) (l : List Trn) : ∀ k : Nat, (addK r l k).length ≤ l.length + k ∧ l.length ≤ (addK r l k).length
  | 0 => ⟨by show l.length ≤ _; omega, Nat.le_refl _⟩
  | k + 1 => by
    have h1 := addK_len r l k
    have h2 := addY_len r (addK r l k) (r.fr + k)
    show (addY r (addK r l k) (r.fr + k)).length ≤ _ ∧ _ ≤ (addY r (addK r l k) (r.fr + k)).length
    omega
theorem addR_ok {R : Rul → Prop} {r : Rul} {l : List Trn} {n : ByteArray} (h : TOk R l) (hr : r.nm = n → R r) (h0 : rulE r = 0) : TOk R (addR n l r) ∧ (addR n l r).length ≤ l.length + 200 := by
  obtain ⟨a1, a2, a3, a4, a5, a6, a7, a8⟩ := rulE_zero h0
  obtain ⟨c1, c2, c3, c4, c5, c6, c7⟩ := chkM_zero a8
  unfold addR
  split
  · rename_i e
    have hl := addK_len r l (r.to - r.fr + 1).toNat
    exact ⟨addK_ok h (hr e) ⟨c6, c7⟩ _, by omega⟩
  · exact ⟨h, by omega⟩
theorem trn0_ok (n : ByteArray) : ∀ (rules : List Rul), (∀ r ∈ rules, rulE r = 0) → ∀ k, k ≤ rules.length → TOk (fun r => r ∈ rules ∧ r.nm = n) (trn0 (rules.take k) n) ∧ (trn0 (rules.take k) n).length ≤ 200 * k := by
  intro rules h k
  induction k with
  | zero => intro _; exact ⟨TOk.nil _, by simp [trn0]⟩
  | succ k ih =>
    intro hk
    obtain ⟨h1, h2⟩ := ih (by omega)
    rw [trn0_snoc rules n k (by omega)]
    have hm : rules[k] ∈ rules := List.getElem_mem _
    obtain ⟨g1, g2⟩ := addR_ok (n := n) h1 (fun e => ⟨hm, e⟩) (h _ hm)
    exact ⟨g1, by omega⟩
theorem trn0_all (rules : List Rul) (n : ByteArray) (h : ∀ r ∈ rules, rulE r = 0) : TOk (fun r => r ∈ rules ∧ r.nm = n) (trn0 rules n) ∧ (trn0 rules n).length ≤ 200 * rules.length := by
  have := trn0_ok n rules h rules.length (Nat.le_refl _)
  rwa [List.take_length] at this
theorem TOk.tgs {R : Rul → Prop} {l : List Trn} (h : TOk R l) : Tg l := by
  unfold Tg
  rw [List.pairwise_iff_getElem]
  intro i j hi hj hij
  rw [h.tg i hi, h.tg j hj]
  omega
/-- instants, one behind the other. -/
def insT' (o s : Int) (x : Trn) : Int := x.no - (if x.r.at'.c = 0 then o + s else if x.r.at'.c = 1 then o else 0)
def atZ (o : Int) : Int → List Trn → List Trn
  | _, [] => []
  | s, x :: l => ⟨x.r, x.no, x.tg, insT' o s x⟩ :: atZ o x.r.sv l
theorem atZ_len (o : Int) : ∀ (l : List Trn) (s : Int), (atZ o s l).length = l.length
  | [], _ => rfl
  | x :: l, s => by show (atZ o x.r.sv l).length + 1 = _; rw [atZ_len o l]; rfl
/-- what is saved ahead of a turn. -/
def svA (l : List Trn) (k : Nat) : Int := match k with
  | 0 => 0
  | k + 1 => match l[k]? with
    | some x => x.r.sv
    | none => 0
theorem atZ_at (o : Int) : ∀ (l : List Trn) (s : Int) (k : Nat) (h : k < l.length), (atZ o s l)[k]'(by rw [atZ_len]; exact h) = ⟨l[k].r, l[k].no, l[k].tg, insT' o (match k with | 0 => s | k + 1 => match l[k]? with | some x => x.r.sv | none => 0) l[k]⟩
  | [], _, k, h => by simp at h
  | x :: l, s, 0, _ => rfl
  | x :: l, s, k + 1, h => by
    have hk : k < l.length := by simpa using h
    have := atZ_at o l x.r.sv k hk
    show (atZ o x.r.sv l)[k]'(by rw [atZ_len]; exact hk) = _
    rw [this]
    cases k with
    | zero => rfl
    | succ k => rfl
/-- the turns of an era. -/
def trns (rules : List Rul) (o : Int) (n : ByteArray) : List Trn := atZ o 0 (so (trn0 rules n))
theorem trns_len (rules : List Rul) (o : Int) (n : ByteArray) : (trns rules o n).length = (trn0 rules n).length := by unfold trns; rw [atZ_len, so_len]
def firstL (rules : List Rul) (n : ByteArray) : ByteArray := match rules.find? (fun r => decide (r.nm = n ∧ r.sv = 0)) with
  | some r => r.lt
  | none => ByteArray.empty
def lastT (l : List Trn) (t : Int) : Option Trn := l.reverse.find? fun c => decide (c.ins ≤ t)
def stL (rules : List Rul) (x : Ero) (l : List Trn) (t : Int) : Int × ByteArray :=
  if x.rl = ByteArray.empty then (x.sv, ByteArray.empty) else match lastT l t with
    | some c => (c.r.sv, c.r.lt)
    | none => (0, firstL rules x.rl)
def trE (rules : List Rul) (x : Ero) : List Trn := trns rules x.off x.rl
def unI (x : Ero) (c s : Int) : Int := Civ.ins x.yr x.un.mo x.un.k x.un.a x.un.n x.un.t c x.off s
/-- what is saved where an era ends. -/
def svE (rules : List Rul) (x : Ero) : Int := if x.un.c = 0 then (stL rules x (trE rules x) (unI x 1 0 - 1)).1 else 0
def endE (rules : List Rul) (x : Ero) : Int := unI x x.un.c (svE rules x)
def untL (rules : List Rul) (l : List Ero) : List Int := l.dropLast.map (endE rules)
def mom0 (m : Mom) : Bool := decide (m.mo = 0) && decide (m.k = 0) && decide (m.a = 0) && decide (m.n = 0) && decide (m.t = 0) && decide (m.c = 0)
/-- is an era not in form? -/
def eroF (x : Ero) (last : Bool) : Bool := !fmtL x.fm.data.toList || (!decide (x.rl = ByteArray.empty) && (!nameS x.rl || !decide (x.sv = 0))) || (x.en == last) || (last && (!decide (x.yr = 0) || !mom0 x.un))
def eroE (rules : List Rul) (x : Ero) (last : Bool) : Int :=
  if eroF x last = true then 4
  else if x.off < -86400 ∨ 86400 < x.off ∨ x.sv < -86400 ∨ 86400 < x.sv then 2
  else if x.rl ≠ ByteArray.empty ∧ namedB rules x.rl = false then 6
  else if last = true then 0
  else if x.yr < 1900 ∨ 2099 < x.yr then 2
  else if chkM x.un.mo x.un.k x.un.a x.un.n x.un.t x.un.c ≠ 0 then chkM x.un.mo x.un.k x.un.a x.un.n x.un.t x.un.c
  else fndE x.yr x.un.mo x.un.k x.un.a x.un.n
def erosE (rules : List Rul) (l : List Ero) : Int := ferr (fun i x => eroE rules x (decide ((i : Int) = (l.length : Int) - 1))) 0 l
/-- do ends rise? -/
def riseB : List Int → Bool
  | [] => true
  | [_] => true
  | x :: y :: l => decide (x < y) && riseB (y :: l)
def zonE (rules : List Rul) (z : Zon) : Int :=
  if nameS z.nm = false then 4
  else if z.eras.length = 0 ∨ 20 < z.eras.length then 1
  else if erosE rules z.eras ≠ 0 then erosE rules z.eras
  else if riseB (untL rules z.eras) = true then 0 else 8
def zIdx (s : Src) (n : ByteArray) : Int := fidx (fun z => decide (z.nm = n)) s.zones
def lIdx (s : Src) (n : ByteArray) : Int := fidx (fun l => decide (l.nm = n)) s.links
/-- the zone that a name leads to, by so many links at most; less than 0: none. -/
def folL (s : Src) : Nat → ByteArray → Int
  | 0, n => zIdx s n
  | k + 1, n => if 0 ≤ zIdx s n then zIdx s n else if lIdx s n < 0 then -1 else folL s k ((s.links[(lIdx s n).toNat]?).elim ByteArray.empty Lnk.of)
def zHas (l : List Zon) (n : ByteArray) : Bool := l.any fun z => decide (z.nm = n)
def lHas (l : List Lnk) (n : ByteArray) : Bool := l.any fun x => decide (x.nm = n)
def zonF (s : Src) (i : Nat) (z : Zon) : Int := if zonE s.rules z ≠ 0 then zonE s.rules z else if zHas (s.zones.take i) z.nm = true then 7 else 0
def lnkF (s : Src) (i : Nat) (l : Lnk) : Int := if nameS l.nm = false ∨ nameS l.of = false then 4 else if zHas s.zones l.nm = true ∨ lHas (s.links.take i) l.nm = true then 7 else 0
def lnkG (s : Src) (l : Lnk) : Int := if zHas s.zones l.of = true ∨ lHas s.links l.of = true then 0 else 6
def lnkH (s : Src) (l : Lnk) : Int := if 0 ≤ folL s 8 l.nm then 0 else 9
def rulsE (s : Src) : Int := ferr (fun _ r => rulE r) 0 s.rules
def zonsE (s : Src) : Int := ferr (zonF s) 0 s.zones
def lnk1 (s : Src) : Int := ferr (lnkF s) 0 s.links
def lnk2 (s : Src) : Int := ferr (fun _ l => lnkG s l) 0 s.links
def lnk3 (s : Src) : Int := ferr (fun _ l => lnkH s l) 0 s.links
def srcE (s : Src) : Int :=
  if 200 < s.rules.length ∨ 200 < s.zones.length ∨ 200 < s.links.length then 1
  else if rulsE s ≠ 0 then rulsE s else if zonsE s ≠ 0 then zonsE s else if lnk1 s ≠ 0 then lnk1 s else if lnk2 s ≠ 0 then lnk2 s else lnk3 s
/-- what a clock is called. -/
def fmtN (fm lt : List UInt8) (sav : Bool) : List UInt8 :=
  if 0 ≤ Lib.index fm [47] then (if sav then fm.drop ((Lib.index fm [47]).toNat + 1) else fm.take (Lib.index fm [47]).toNat)
  else if 0 ≤ Lib.index fm [37, 115] then fm.take (Lib.index fm [37, 115]).toNat ++ (lt ++ fm.drop ((Lib.index fm [37, 115]).toNat + 2))
  else fm
def clkE (x : Ero) (sl : Int × ByteArray) : Clk := ⟨x.off + sl.1, !decide (sl.1 = 0), ⟨(fmtN x.fm.data.toList sl.2.data.toList (!decide (sl.1 = 0))).toArray⟩⟩
/-- the era at an instant. -/
def eraI (ends : List Int) (t : Int) : Nat := (ends.takeWhile fun e => decide (e ≤ t)).length
end Go.Proofs.YtbciennhcdabeaaDoor
