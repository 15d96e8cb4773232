/-
  Elements of rules, eras, zones and links in memory; slices.IndexFunc over them (printed by zongen.py). zones.named, zones.first; what is wrong with a rule. What is wrong with a rule: zones.checkRule, sundialref.ruleFault.
-/
import Derived.Test.YtbikdlcjbigafaaGreatDoorJZonB0
import Derived.Test.YtbikdlcjbigafaaGreatDoorJStbT
import Derived.Test.YtbikdlcjbigafaaGreatDoorJMxl
import Derived.Test.YtbikdlcjbigafaaGreatDoorJCivT
import Derived.Test.YtbikdlcjbigafaaGreatDoorJSrcT
namespace Go.Proofs.YtbikdlcjbigafaaGreatDoor
set_option linter.unusedVariables false
set_option linter.unusedSimpArgs false
open Go.ChangeShapes Go.WideShapes Go.ChangeAt Go.RowKit

/-- the cells at an address are those of x. -/
def RulAt (w : World) (b o : Nat) (x : Rul) : Prop := w.cell? ⟨b, o, none⟩ = some (.string x.nm) ∧ w.cell? ⟨b, o + 1, none⟩ = some (.int .i64 x.fr) ∧ w.cell? ⟨b, o + 2, none⟩ = some (.int .i64 x.to) ∧ w.cell? ⟨b, o + 3, none⟩ = some (.int .i64 x.at'.mo) ∧ w.cell? ⟨b, o + 4, none⟩ = some (.int .i64 x.at'.k) ∧ w.cell? ⟨b, o + 5, none⟩ = some (.int .i64 x.at'.a) ∧ w.cell? ⟨b, o + 6, none⟩ = some (.int .i64 x.at'.n) ∧ w.cell? ⟨b, o + 7, none⟩ = some (.int .i64 x.at'.t) ∧ w.cell? ⟨b, o + 8, none⟩ = some (.int .i64 x.at'.c) ∧ w.cell? ⟨b, o + 9, none⟩ = some (.int .i64 x.sv) ∧ w.cell? ⟨b, o + 10, none⟩ = some (.string x.lt)
theorem elemRul {w : World} {aa : Option Addr} {n ca : Nat} {xs : List Rul} (h : SlAt w 11 RRul (.slice aa n ca) xs) (k : Nat) (hk : k < xs.length) :
    ∃ b off, aa = some ⟨b, off, none⟩ ∧ b < w.heap.size ∧ RulAt w b (off + k * 11) xs[k] ∧ R64 xs[k] := by
  rcases h with ⟨a, cap, _, rfl⟩ | ⟨b, off, cap, e, h0, h1, h2, h3, h4⟩
  · simp at hk
  · obtain ⟨cs, hl, ⟨rfl, hf⟩, hc⟩ := h4 k hk
    simp only [Value.slice.injEq] at e
    obtain ⟨rfl, -, -⟩ := e
    exact ⟨b, off, rfl, h3, ⟨hc 0 (by omega), hc 1 (by omega), hc 2 (by omega), hc 3 (by omega), hc 4 (by omega), hc 5 (by omega), hc 6 (by omega), hc 7 (by omega), hc 8 (by omega), hc 9 (by omega), hc 10 (by omega)⟩, hf⟩
theorem RulAt.below {w w' : World} {b o : Nat} {x : Rul} (h : RulAt w b o x) (hb : Below w.heap.size w w') (hz : b < w.heap.size) : RulAt w' b o x := by
  obtain ⟨h0, h1, h2, h3, h4, h5, h6, h7, h8, h9, h10⟩ := h
  exact ⟨(hb.cell (p := ⟨b, _, none⟩) hz).trans h0, (hb.cell (p := ⟨b, _, none⟩) hz).trans h1, (hb.cell (p := ⟨b, _, none⟩) hz).trans h2, (hb.cell (p := ⟨b, _, none⟩) hz).trans h3, (hb.cell (p := ⟨b, _, none⟩) hz).trans h4, (hb.cell (p := ⟨b, _, none⟩) hz).trans h5, (hb.cell (p := ⟨b, _, none⟩) hz).trans h6, (hb.cell (p := ⟨b, _, none⟩) hz).trans h7, (hb.cell (p := ⟨b, _, none⟩) hz).trans h8, (hb.cell (p := ⟨b, _, none⟩) hz).trans h9, (hb.cell (p := ⟨b, _, none⟩) hz).trans h10⟩
theorem RulAt.new (w : World) (x : Rul) (T : TypeId) : RulAt (w.alloc (.cells #[.string x.nm, .int .i64 x.fr, .int .i64 x.to, .int .i64 x.at'.mo, .int .i64 x.at'.k, .int .i64 x.at'.a, .int .i64 x.at'.n, .int .i64 x.at'.t, .int .i64 x.at'.c, .int .i64 x.sv, .string x.lt] T)) w.heap.size 0 x :=
  ⟨(World.cell?_alloc_at (w := w) _ _ w.heap.size _ rfl).trans rfl, (World.cell?_alloc_at (w := w) _ _ w.heap.size _ rfl).trans rfl, (World.cell?_alloc_at (w := w) _ _ w.heap.size _ rfl).trans rfl, (World.cell?_alloc_at (w := w) _ _ w.heap.size _ rfl).trans rfl, (World.cell?_alloc_at (w := w) _ _ w.heap.size _ rfl).trans rfl, (World.cell?_alloc_at (w := w) _ _ w.heap.size _ rfl).trans rfl, (World.cell?_alloc_at (w := w) _ _ w.heap.size _ rfl).trans rfl, (World.cell?_alloc_at (w := w) _ _ w.heap.size _ rfl).trans rfl, (World.cell?_alloc_at (w := w) _ _ w.heap.size _ rfl).trans rfl, (World.cell?_alloc_at (w := w) _ _ w.heap.size _ rfl).trans rfl, (World.cell?_alloc_at (w := w) _ _ w.heap.size _ rfl).trans rfl⟩
/-- the cells at an address are those of x. -/
def EroAt (w : World) (b o : Nat) (x : Ero) : Prop := w.cell? ⟨b, o, none⟩ = some (.int .i64 x.off) ∧ w.cell? ⟨b, o + 1, none⟩ = some (.string x.rl) ∧ w.cell? ⟨b, o + 2, none⟩ = some (.int .i64 x.sv) ∧ w.cell? ⟨b, o + 3, none⟩ = some (.string x.fm) ∧ w.cell? ⟨b, o + 4, none⟩ = some (.bool x.en) ∧ w.cell? ⟨b, o + 5, none⟩ = some (.int .i64 x.yr) ∧ w.cell? ⟨b, o + 6, none⟩ = some (.int .i64 x.un.mo) ∧ w.cell? ⟨b, o + 7, none⟩ = some (.int .i64 x.un.k) ∧ w.cell? ⟨b, o + 8, none⟩ = some (.int .i64 x.un.a) ∧ w.cell? ⟨b, o + 9, none⟩ = some (.int .i64 x.un.n) ∧ w.cell? ⟨b, o + 10, none⟩ = some (.int .i64 x.un.t) ∧ w.cell? ⟨b, o + 11, none⟩ = some (.int .i64 x.un.c)
theorem elemEro {w : World} {aa : Option Addr} {n ca : Nat} {xs : List Ero} (h : SlAt w 12 REro (.slice aa n ca) xs) (k : Nat) (hk : k < xs.length) :
    ∃ b off, aa = some ⟨b, off, none⟩ ∧ b < w.heap.size ∧ EroAt w b (off + k * 12) xs[k] ∧ E64 xs[k] := by
  rcases h with ⟨a, cap, _, rfl⟩ | ⟨b, off, cap, e, h0, h1, h2, h3, h4⟩
  · simp at hk
  · obtain ⟨cs, hl, ⟨rfl, hf⟩, hc⟩ := h4 k hk
    simp only [Value.slice.injEq] at e
    obtain ⟨rfl, -, -⟩ := e
    exact ⟨b, off, rfl, h3, ⟨hc 0 (by omega), hc 1 (by omega), hc 2 (by omega), hc 3 (by omega), hc 4 (by omega), hc 5 (by omega), hc 6 (by omega), hc 7 (by omega), hc 8 (by omega), hc 9 (by omega), hc 10 (by omega), hc 11 (by omega)⟩, hf⟩
theorem EroAt.below {w w' : World} {b o : Nat} {x : Ero} (h : EroAt w b o x) (hb : Below w.heap.size w w') (hz : b < w.heap.size) : EroAt w' b o x := by
  obtain ⟨h0, h1, h2, h3, h4, h5, h6, h7, h8, h9, h10, h11⟩ := h
  exact ⟨(hb.cell (p := ⟨b, _, none⟩) hz).trans h0, (hb.cell (p := ⟨b, _, none⟩) hz).trans h1, (hb.cell (p := ⟨b, _, none⟩) hz).trans h2, (hb.cell (p := ⟨b, _, none⟩) hz).trans h3, (hb.cell (p := ⟨b, _, none⟩) hz).trans h4, (hb.cell (p := ⟨b, _, none⟩) hz).trans h5, (hb.cell (p := ⟨b, _, none⟩) hz).trans h6, (hb.cell (p := ⟨b, _, none⟩) hz).trans h7, (hb.cell (p := ⟨b, _, none⟩) hz).trans h8, (hb.cell (p := ⟨b, _, none⟩) hz).trans h9, (hb.cell (p := ⟨b, _, none⟩) hz).trans h10, (hb.cell (p := ⟨b, _, none⟩) hz).trans h11⟩
theorem EroAt.new (w : World) (x : Ero) (T : TypeId) : EroAt (w.alloc (.cells #[.int .i64 x.off, .string x.rl, .int .i64 x.sv, .string x.fm, .bool x.en, .int .i64 x.yr, .int .i64 x.un.mo, .int .i64 x.un.k, .int .i64 x.un.a, .int .i64 x.un.n, .int .i64 x.un.t, .int .i64 x.un.c] T)) w.heap.size 0 x :=
  ⟨(World.cell?_alloc_at (w := w) _ _ w.heap.size _ rfl).trans rfl, (World.cell?_alloc_at (w := w) _ _ w.heap.size _ rfl).trans rfl, (World.cell?_alloc_at (w := w) _ _ w.heap.size _ rfl).trans rfl, (World.cell?_alloc_at (w := w) _ _ w.heap.size _ rfl).trans rfl, (World.cell?_alloc_at (w := w) _ _ w.heap.size _ rfl).trans rfl, (World.cell?_alloc_at (w := w) _ _ w.heap.size _ rfl).trans rfl, (World.cell?_alloc_at (w := w) _ _ w.heap.size _ rfl).trans rfl, (World.cell?_alloc_at (w := w) _ _ w.heap.size _ rfl).trans rfl, (World.cell?_alloc_at (w := w) _ _ w.heap.size _ rfl).trans rfl, (World.cell?_alloc_at (w := w) _ _ w.heap.size _ rfl).trans rfl, (World.cell?_alloc_at (w := w) _ _ w.heap.size _ rfl).trans rfl, (World.cell?_alloc_at (w := w) _ _ w.heap.size _ rfl).trans rfl⟩
/-- the cells at an address are those of x. -/
def LnkAt (w : World) (b o : Nat) (x : Lnk) : Prop := w.cell? ⟨b, o, none⟩ = some (.string x.of) ∧ w.cell? ⟨b, o + 1, none⟩ = some (.string x.nm)
theorem elemLnk {w : World} {aa : Option Addr} {n ca : Nat} {xs : List Lnk} (h : SlAt w 2 RLnk (.slice aa n ca) xs) (k : Nat) (hk : k < xs.length) :
    ∃ b off, aa = some ⟨b, off, none⟩ ∧ b < w.heap.size ∧ LnkAt w b (off + k * 2) xs[k] ∧ (xs[k].of.size ≤ maxLen ∧ xs[k].nm.size ≤ maxLen) := by
  rcases h with ⟨a, cap, _, rfl⟩ | ⟨b, off, cap, e, h0, h1, h2, h3, h4⟩
  · simp at hk
  · obtain ⟨cs, hl, ⟨rfl, hf⟩, hc⟩ := h4 k hk
    simp only [Value.slice.injEq] at e
    obtain ⟨rfl, -, -⟩ := e
    exact ⟨b, off, rfl, h3, ⟨hc 0 (by omega), hc 1 (by omega)⟩, hf⟩
theorem LnkAt.below {w w' : World} {b o : Nat} {x : Lnk} (h : LnkAt w b o x) (hb : Below w.heap.size w w') (hz : b < w.heap.size) : LnkAt w' b o x := by
  obtain ⟨h0, h1⟩ := h
  exact ⟨(hb.cell (p := ⟨b, _, none⟩) hz).trans h0, (hb.cell (p := ⟨b, _, none⟩) hz).trans h1⟩
theorem LnkAt.new (w : World) (x : Lnk) (T : TypeId) : LnkAt (w.alloc (.cells #[.string x.of, .string x.nm] T)) w.heap.size 0 x :=
  ⟨(World.cell?_alloc_at (w := w) _ _ w.heap.size _ rfl).trans rfl, (World.cell?_alloc_at (w := w) _ _ w.heap.size _ rfl).trans rfl⟩
theorem elemZon {w : World} {aa : Option Addr} {n ca : Nat} {xs : List Zon} (h : SlAt w 2 (RZon w) (.slice aa n ca) xs) (k : Nat) (hk : k < xs.length) :
    ∃ b off v, aa = some ⟨b, off, none⟩ ∧ b < w.heap.size ∧ (w.cell? ⟨b, off + k * 2, none⟩ = some (.string xs[k].nm) ∧ w.cell? ⟨b, off + k * 2 + 1, none⟩ = some v) ∧ SlAt w 12 REro v xs[k].eras ∧ xs[k].nm.size ≤ maxLen := by
  rcases h with ⟨a, cap, _, rfl⟩ | ⟨b, off, cap, e, h0, h1, h2, h3, h4⟩
  · simp at hk
  · obtain ⟨cs, hl, ⟨v, rfl, hv, hf⟩, hc⟩ := h4 k hk
    simp only [Value.slice.injEq] at e
    obtain ⟨rfl, -, -⟩ := e
    exact ⟨b, off, v, rfl, h3, ⟨hc 0 (by omega), hc 1 (by omega)⟩, hv, hf⟩
set_option maxHeartbeats 1000000 in
set_option maxRecDepth 100000 in
theorem idxRul_any (p : Rul → Bool) (F : Nat) (c : Value) (v : Value) (xs : List Rul) (w : World) (hv : SlAt w 11 RRul v xs) (eg : ∀ args w, (callFunc F args).run Tryz.prog w = .ok (.enter F args) w)
    (hF : ∀ x ∈ xs, ∀ w1 : World, Below w.heap.size w w1 → Calls Tryz.prog F #[.agg #[.string x.nm, .int .i64 x.fr, .int .i64 x.to, .int .i64 x.at'.mo, .int .i64 x.at'.k, .int .i64 x.at'.a, .int .i64 x.at'.n, .int .i64 x.at'.t, .int .i64 x.at'.c, .int .i64 x.sv, .string x.lt], c] w1 fun e w' => e = .returned (.bool (p x)) ∧ Below w1.heap.size w1 w') :
    Calls Tryz.prog 113 #[v, .func (.func F) #[] #[c]] w fun e w' => e = .returned (.int .i64 (fidx p xs)) ∧ Below w.heap.size w w' := by
  obtain ⟨av, cv, rfl, hl⟩ := hv.shape
  have hm := maxLen_eq _ hl
  have HF := Lib.hid hF
  have HV := Lib.hid hv
  clear hF hv hl
  go_enter Tryz.func113, Tryz.ntmps113
  go_wp2
  go_loopw [8, 5] (fun t _ wr => ∃ k : Nat, k ≤ xs.length ∧ t = .int .i64 k ∧ Hid (∀ i (hi : i < xs.length), i < k → p xs[i] = false) ∧ Hid (Below w.heap.size w wr)) (fun t _ _ => (xs.length - intOf t).toNat)
  case atStart => exact ⟨0, by omega, rfl, fun i _ h => by omega, Below.refl _ _⟩
  case round =>
    obtain ⟨k, hk, rfl, hn, HB⟩ := hrel
    by_cases hlt : k < xs.length
    · obtain ⟨b, off, rfl, hb, ⟨c0, c1, c2, c3, c4, c5, c6, c7, c8, c9, c10⟩, -⟩ := elemRul (HV.out.mono HB.out fun _ _ h => h) k hlt
      have HC := Lib.hid (HF.out xs[k] (List.getElem_mem hlt) wr HB.out)
      have hlti : (k : Int) < (xs.length : Int) := by omega
      by_cases hp : p xs[k] = true
      · have hfin := Lib.hid (fidx_at p xs k hlt (fun i hi => hn.out i (by omega) hi) hp)
        generalize xs[k] = x at *
        rw [hp] at HC
        clear hp
        go_wp2_with fail
        refine HC.out.mono ?_; rintro e w1 ⟨rfl, hb1⟩
        have HB1 := Lib.hid (HB.out.trans (hb1.mono HB.out.size))
        clear hb1 HC hb
        go_wp2
        go_ret
        exact ⟨ret_int hfin.out.symm, HB1.out⟩
      · have hp' : p xs[k] = false := by simpa using hp
        clear hp
        have hn' : Hid (∀ i (hi : i < xs.length), i < k + 1 → p xs[i] = false) := fun i hi h => by
          by_cases e : i = k
          · subst e; exact hp'
          · exact hn.out i hi (by omega)
        generalize xs[k] = x at *
        rw [hp'] at HC
        clear hp'
        go_wp2_with fail
        refine HC.out.mono ?_; rintro e w1 ⟨rfl, hb1⟩
        have HB1 := Lib.hid (HB.out.trans (hb1.mono HB.out.size))
        clear hb1 HC hb
        go_wp2
        go_roundw
        case rel => exact ⟨k + 1, by omega, by go_num, hn', HB1⟩
        case measure => simp [intOf]; omega
    · have hfin := Lib.hid (fidx_none p xs (fun i hi => hn.out i hi (by omega)))
      have hnlt : ¬ (k : Int) < (xs.length : Int) := by omega
      go_wp2
      go_ret
      exact ⟨ret_int hfin.out.symm, HB.out⟩
set_option maxHeartbeats 1000000 in
set_option maxRecDepth 100000 in
theorem idxLnk_any (p : Lnk → Bool) (F : Nat) (c : Value) (v : Value) (xs : List Lnk) (w : World) (hv : SlAt w 2 RLnk v xs) (eg : ∀ args w, (callFunc F args).run Tryz.prog w = .ok (.enter F args) w)
    (hF : ∀ x ∈ xs, ∀ w1 : World, Below w.heap.size w w1 → Calls Tryz.prog F #[.agg #[.string x.of, .string x.nm], c] w1 fun e w' => e = .returned (.bool (p x)) ∧ Below w1.heap.size w1 w') :
    Calls Tryz.prog 108 #[v, .func (.func F) #[] #[c]] w fun e w' => e = .returned (.int .i64 (fidx p xs)) ∧ Below w.heap.size w w' := by
  obtain ⟨av, cv, rfl, hl⟩ := hv.shape
  have hm := maxLen_eq _ hl
  have HF := Lib.hid hF
  have HV := Lib.hid hv
  clear hF hv hl
  go_enter Tryz.func108, Tryz.ntmps108
  go_wp2
  go_loopw [8, 5] (fun t _ wr => ∃ k : Nat, k ≤ xs.length ∧ t = .int .i64 k ∧ Hid (∀ i (hi : i < xs.length), i < k → p xs[i] = false) ∧ Hid (Below w.heap.size w wr)) (fun t _ _ => (xs.length - intOf t).toNat)
  case atStart => exact ⟨0, by omega, rfl, fun i _ h => by omega, Below.refl _ _⟩
  case round =>
    obtain ⟨k, hk, rfl, hn, HB⟩ := hrel
    by_cases hlt : k < xs.length
    · obtain ⟨b, off, rfl, hb, ⟨c0, c1⟩, -⟩ := elemLnk (HV.out.mono HB.out fun _ _ h => h) k hlt
      have HC := Lib.hid (HF.out xs[k] (List.getElem_mem hlt) wr HB.out)
      have hlti : (k : Int) < (xs.length : Int) := by omega
      by_cases hp : p xs[k] = true
      · have hfin := Lib.hid (fidx_at p xs k hlt (fun i hi => hn.out i (by omega) hi) hp)
        generalize xs[k] = x at *
        rw [hp] at HC
        clear hp
        go_wp2_with fail
        refine HC.out.mono ?_; rintro e w1 ⟨rfl, hb1⟩
        have HB1 := Lib.hid (HB.out.trans (hb1.mono HB.out.size))
        clear hb1 HC hb
        go_wp2
        go_ret
        exact ⟨ret_int hfin.out.symm, HB1.out⟩
      · have hp' : p xs[k] = false := by simpa using hp
        clear hp
        have hn' : Hid (∀ i (hi : i < xs.length), i < k + 1 → p xs[i] = false) := fun i hi h => by
          by_cases e : i = k
          · subst e; exact hp'
          · exact hn.out i hi (by omega)
        generalize xs[k] = x at *
        rw [hp'] at HC
        clear hp'
        go_wp2_with fail
        refine HC.out.mono ?_; rintro e w1 ⟨rfl, hb1⟩
        have HB1 := Lib.hid (HB.out.trans (hb1.mono HB.out.size))
        clear hb1 HC hb
        go_wp2
        go_roundw
        case rel => exact ⟨k + 1, by omega, by go_num, hn', HB1⟩
        case measure => simp [intOf]; omega
    · have hfin := Lib.hid (fidx_none p xs (fun i hi => hn.out i hi (by omega)))
      have hnlt : ¬ (k : Int) < (xs.length : Int) := by omega
      go_wp2
      go_ret
      exact ⟨ret_int hfin.out.symm, HB.out⟩
set_option maxHeartbeats 1000000 in
set_option maxRecDepth 100000 in
theorem idxZon_any (p : Zon → Bool) (F : Nat) (c : Value) (v : Value) (xs : List Zon) (w : World) (hv : SlAt w 2 (RZon w) v xs) (eg : ∀ args w, (callFunc F args).run Tryz.prog w = .ok (.enter F args) w)
    (hF : ∀ x ∈ xs, ∀ u, ∀ w1 : World, Below w.heap.size w w1 → Calls Tryz.prog F #[.agg #[.string x.nm, u], c] w1 fun e w' => e = .returned (.bool (p x)) ∧ Below w1.heap.size w1 w') :
    Calls Tryz.prog 106 #[v, .func (.func F) #[] #[c]] w fun e w' => e = .returned (.int .i64 (fidx p xs)) ∧ Below w.heap.size w w' := by
  obtain ⟨av, cv, rfl, hl⟩ := hv.shape
  have hm := maxLen_eq _ hl
  have HF := Lib.hid hF
  have HV := Lib.hid hv
  clear hF hv hl
  go_enter Tryz.func106, Tryz.ntmps106
  go_wp2
  go_loopw [8, 5] (fun t _ wr => ∃ k : Nat, k ≤ xs.length ∧ t = .int .i64 k ∧ Hid (∀ i (hi : i < xs.length), i < k → p xs[i] = false) ∧ Hid (Below w.heap.size w wr)) (fun t _ _ => (xs.length - intOf t).toNat)
  case atStart => exact ⟨0, by omega, rfl, fun i _ h => by omega, Below.refl _ _⟩
  case round =>
    obtain ⟨k, hk, rfl, hn, HB⟩ := hrel
    by_cases hlt : k < xs.length
    · obtain ⟨b, off, u, rfl, hb, ⟨c0, c1⟩, -, -⟩ := elemZon (HV.out.mono HB.out (RZon.mono HB.out)) k hlt
      have HC := Lib.hid (HF.out xs[k] (List.getElem_mem hlt) u wr HB.out)
      have hlti : (k : Int) < (xs.length : Int) := by omega
      by_cases hp : p xs[k] = true
      · have hfin := Lib.hid (fidx_at p xs k hlt (fun i hi => hn.out i (by omega) hi) hp)
        generalize xs[k] = x at *
        rw [hp] at HC
        clear hp
        go_wp2_with fail
        refine HC.out.mono ?_; rintro e w1 ⟨rfl, hb1⟩
        have HB1 := Lib.hid (HB.out.trans (hb1.mono HB.out.size))
        clear hb1 HC hb
        go_wp2
        go_ret
        exact ⟨ret_int hfin.out.symm, HB1.out⟩
      · have hp' : p xs[k] = false := by simpa using hp
        clear hp
        have hn' : Hid (∀ i (hi : i < xs.length), i < k + 1 → p xs[i] = false) := fun i hi h => by
          by_cases e : i = k
          · subst e; exact hp'
          · exact hn.out i hi (by omega)
        generalize xs[k] = x at *
        rw [hp'] at HC
        clear hp'
        go_wp2_with fail
        refine HC.out.mono ?_; rintro e w1 ⟨rfl, hb1⟩
        have HB1 := Lib.hid (HB.out.trans (hb1.mono HB.out.size))
        clear hb1 HC hb
        go_wp2
        go_roundw
        case rel => exact ⟨k + 1, by omega, by go_num, hn', HB1⟩
        case measure => simp [intOf]; omega
    · have hfin := Lib.hid (fidx_none p xs (fun i hi => hn.out i hi (by omega)))
      have hnlt : ¬ (k : Int) < (xs.length : Int) := by omega
      go_wp2
      go_ret
      exact ⟨ret_int hfin.out.symm, HB.out⟩
set_option maxHeartbeats 1000000 in
theorem contRul_any (p : Rul → Bool) (F : Nat) (c : Value) (v : Value) (xs : List Rul) (w : World) (hv : SlAt w 11 RRul v xs) (eg : ∀ args w, (callFunc F args).run Tryz.prog w = .ok (.enter F args) w)
    (hF : ∀ x ∈ xs, ∀ w1 : World, Below w.heap.size w w1 → Calls Tryz.prog F #[.agg #[.string x.nm, .int .i64 x.fr, .int .i64 x.to, .int .i64 x.at'.mo, .int .i64 x.at'.k, .int .i64 x.at'.a, .int .i64 x.at'.n, .int .i64 x.at'.t, .int .i64 x.at'.c, .int .i64 x.sv, .string x.lt], c] w1 fun e w' => e = .returned (.bool (p x)) ∧ Below w1.heap.size w1 w') :
    Calls Tryz.prog 177 #[v, .func (.func F) #[] #[c]] w fun e w' => e = .returned (.bool (xs.any p)) ∧ Below w.heap.size w w' := by
  have HI := Lib.hid (idxRul_any p F c v xs w hv eg hF)
  have HA := Lib.hid (fidx_any p xs)
  clear hF eg hv
  go_enter Tryz.func177, Tryz.ntmps177
  go_wp2_with fail
  refine HI.out.mono ?_; rintro e w1 ⟨rfl, hb1⟩
  have HB1 := Lib.hid hb1
  clear hb1
  go_wp2
  go_ret
  exact ⟨ret_bool HA.out, HB1.out⟩
end Go.Proofs.YtbikdlcjbigafaaGreatDoor
namespace Go.Proofs.YtbikdlcjbigafaaGreatDoor
set_option linter.unusedVariables false
set_option linter.unusedSimpArgs false
open Go.ChangeShapes Go.WideShapes Go.ChangeAt Go.RowKit Civ

theorem blk_z {w : World} {b o : Nat} {v : Value} (h : w.cell? ⟨b, o, none⟩ = some v) : b < w.heap.size := by
  rcases Nat.lt_or_ge b w.heap.size with q | q
  · exact q
  · simp [World.cell?, Array.getElem?_eq_none q] at h
theorem streq (a b : ByteArray) : (a.toList == b.toList) = decide (a = b) := by
  rw [Bool.eq_iff_iff, beq_iff_eq, decide_eq_true_iff]
  constructor
  · intro h
    rw [ByteArray.toList_eq, ByteArray.toList_eq] at h
    exact Go.WideShapes.bytes_inj h
  · rintro rfl; rfl
set_option maxHeartbeats 1000000 in
theorem named1_any (x : Rul) (n : ByteArray) (b : Nat) (w : World) (hc : w.cell? ⟨b, 0, none⟩ = some (.string n)) :
    Calls Tryz.prog 178 #[.agg #[.string x.nm, .int .i64 x.fr, .int .i64 x.to, .int .i64 x.at'.mo, .int .i64 x.at'.k, .int .i64 x.at'.a, .int .i64 x.at'.n, .int .i64 x.at'.t, .int .i64 x.at'.c, .int .i64 x.sv, .string x.lt], .pointer (some ⟨b, 0, none⟩)] w fun e w' => e = .returned (.bool (decide (x.nm = n))) ∧ Below w.heap.size w w' := by
  have hb := blk_z hc
  go_enter Tryz.func178, Tryz.ntmps178
  go_wp2
  go_ret
  exact ⟨ret_bool (streq _ _), (Below.refl _ _).alloc (Nat.le_refl _) _⟩
theorem named1_enters (args : Array Value) (w : World) : (callFunc 178 args).run Tryz.prog w = .ok (.enter 178 args) w := enters_of Tryz.func178 (by kernel_rfl) rfl args w
set_option maxHeartbeats 1000000 in
theorem named_any (s : Src) (vr vz vl : Value) (n : ByteArray) (w : World) (hs : SrcAt w vr vz vl s) :
    Calls Tryz.prog 149 #[.agg #[vr, vz, vl], .string n] w fun e w' => e = .returned (.bool (namedB s.rules n)) ∧ Below w.heap.size w w' := by
  have b1 : Below w.heap.size w ((w.alloc (.cells #[vr, vz, vl] 28)).alloc (.cells #[.string n] 9)) := ((Below.refl _ _).alloc (Nat.le_refl _) _).alloc (by simp) _
  have c0 : ((w.alloc (.cells #[vr, vz, vl] 28)).alloc (.cells #[.string n] 9)).cell? ⟨w.heap.size + 1, 0, none⟩ = some (.string n) := (World.cell?_alloc_at (w := w.alloc _) _ _ (w.heap.size + 1) 0 (size_alloc _ _).symm).trans rfl
  have HI := Lib.hid (contRul_any (fun r => decide (r.nm = n)) 178 (.pointer (some ⟨w.heap.size + 1, 0, none⟩)) vr s.rules _ (hs.1.mono b1 fun _ _ h => h) named1_enters
    (fun x _ w1 hb => named1_any x n (w.heap.size + 1) w1 ((hb.cell (p := ⟨_, 0, none⟩) (blk_z c0)).trans c0)))
  have HB := Lib.hid b1
  have hmf : ∀ (fn : Fn) (first cap : Array Value) (w : World), (Instr.makeFunc fn first cap).run Tryz.prog w = .ok (.func fn first cap) w := fun _ _ _ _ => rfl
  clear hs b1 c0
  go_enter Tryz.func149, Tryz.ntmps149
  go_wp2_with fail
  refine HI.out.mono ?_; rintro e w1 ⟨rfl, hb1⟩
  have HB1 := Lib.hid (HB.out.trans (hb1.mono HB.out.size))
  clear hb1 HI HB
  go_wp2
  go_ret
  exact ⟨rfl, HB1.out⟩
def frP (n : ByteArray) (r : Rul) : Bool := decide (r.nm = n ∧ r.sv = 0)
set_option maxHeartbeats 1000000 in
theorem first1_any (x : Rul) (n : ByteArray) (b : Nat) (w : World) (hc : w.cell? ⟨b, 1, none⟩ = some (.string n)) :
    Calls Tryz.prog 114 #[.agg #[.string x.nm, .int .i64 x.fr, .int .i64 x.to, .int .i64 x.at'.mo, .int .i64 x.at'.k, .int .i64 x.at'.a, .int .i64 x.at'.n, .int .i64 x.at'.t, .int .i64 x.at'.c, .int .i64 x.sv, .string x.lt], .pointer (some ⟨b, 0, none⟩)] w fun e w' => e = .returned (.bool (frP n x)) ∧ Below w.heap.size w w' := by
  have hb := blk_z hc
  by_cases h : x.nm = n
  · have hx : (x.nm.toList == n.toList) = true := by rw [streq]; simpa using h
    have HP : Hid (frP n x = (x.sv == 0)) := by show _ = _; unfold frP; rw [Bool.eq_iff_iff]; simp [h]
    clear h
    go_enter Tryz.func114, Tryz.ntmps114
    go_wp2
    go_ret
    exact ⟨ret_bool HP.out.symm, (Below.refl _ _).alloc (Nat.le_refl _) _⟩
  · have hx : (x.nm.toList == n.toList) = false := by rw [streq]; simpa using h
    have HP : Hid (frP n x = false) := by show _ = _; unfold frP; simp [h]
    clear h
    go_enter Tryz.func114, Tryz.ntmps114
    go_wp2
    go_ret
    exact ⟨ret_bool HP.out.symm, (Below.refl _ _).alloc (Nat.le_refl _) _⟩
theorem first1_enters (args : Array Value) (w : World) : (callFunc 114 args).run Tryz.prog w = .ok (.enter 114 args) w := enters_of Tryz.func114 (by kernel_rfl) rfl args w
theorem first_fidx (n : ByteArray) : ∀ (rules : List Rul), (fidx (frP n) rules < 0 ∧ firstL rules n = ByteArray.empty) ∨ ∃ k : Nat, ∃ h : k < rules.length, fidx (frP n) rules = (k : Int) ∧ firstL rules n = rules[k].lt
  | [] => .inl ⟨by show (-1 : Int) < 0; decide, rfl⟩
  | r :: l => by
    by_cases h : frP n r = true
    · right
      refine ⟨0, by simp, by simp [fidx, h], ?_⟩
      have e : (r :: l).find? (fun r => decide (r.nm = n ∧ r.sv = 0)) = some r := List.find?_cons_of_pos h
      unfold firstL
      rw [e]
      rfl
    · have h' : frP n r = false := by simpa using h
      have e1 : firstL (r :: l) n = firstL l n := by
        unfold firstL
        rw [List.find?_cons_of_neg (by exact h)]
      rcases first_fidx n l with ⟨a, b⟩ | ⟨k, hk, a, b⟩
      · left
        refine ⟨?_, by rw [e1, b]⟩
        have := fidx_lo (frP n) l
        simp only [fidx, h']
        split <;> simp_all
      · right
        refine ⟨k + 1, by simpa using hk, ?_, by rw [e1, b]; rfl⟩
        simp only [fidx, h', a]
        split <;> simp_all
        omega
set_option maxHeartbeats 2000000 in
theorem first_any_z (s : Src) (x : Ero) (vr vz vl : Value) (w : World) (hs : SrcAt w vr vz vl s) :
    Calls Tryz.prog 68 #[.agg #[vr, vz, vl], .agg #[.int .i64 x.off, .string x.rl, .int .i64 x.sv, .string x.fm, .bool x.en, .int .i64 x.yr, .int .i64 x.un.mo, .int .i64 x.un.k, .int .i64 x.un.a, .int .i64 x.un.n, .int .i64 x.un.t, .int .i64 x.un.c]] w fun e w' => e = .returned (.string (firstL s.rules x.rl)) ∧ Below w.heap.size w w' := by
  have b1 : Below w.heap.size w ((w.alloc (.cells #[vr, vz, vl] 28)).alloc (.cells #[.int .i64 x.off, .string x.rl, .int .i64 x.sv, .string x.fm, .bool x.en, .int .i64 x.yr, .int .i64 x.un.mo, .int .i64 x.un.k, .int .i64 x.un.a, .int .i64 x.un.n, .int .i64 x.un.t, .int .i64 x.un.c] 68)) := ((Below.refl _ _).alloc (Nat.le_refl _) _).alloc (by simp) _
  obtain ⟨W1, hW1⟩ : ∃ W1, W1 = (w.alloc (.cells #[vr, vz, vl] 28)).alloc (.cells #[.int .i64 x.off, .string x.rl, .int .i64 x.sv, .string x.fm, .bool x.en, .int .i64 x.yr, .int .i64 x.un.mo, .int .i64 x.un.k, .int .i64 x.un.a, .int .i64 x.un.n, .int .i64 x.un.t, .int .i64 x.un.c] 68) := ⟨_, rfl⟩
  have c0 : W1.cell? ⟨w.heap.size, 0, none⟩ = some vr := by
    rw [hW1]
    refine (World.cell?_alloc_past _ _ _ (by rw [size_alloc]; exact Nat.lt_succ_self _)).trans ?_
    exact (World.cell?_alloc_at (w := w) _ _ w.heap.size 0 rfl).trans rfl
  have c1 : W1.cell? ⟨w.heap.size + 1, 1, none⟩ = some (.string x.rl) := by
    rw [hW1]
    exact (World.cell?_alloc_at (w := w.alloc _) _ _ (w.heap.size + 1) 1 (size_alloc _ _).symm).trans rfl
  rw [← hW1] at b1
  have HI := Lib.hid (idxRul_any (frP x.rl) 114 (.pointer (some ⟨w.heap.size + 1, 0, none⟩)) vr s.rules W1 (hs.1.mono b1 fun _ _ h => h) first1_enters
    (fun r _ w1 hb => first1_any r x.rl (w.heap.size + 1) w1 ((hb.cell (p := ⟨_, 1, none⟩) (blk_z c1)).trans c1)))
  have HS := Lib.hid (hs.1.mono b1 fun _ _ h => h)
  have HB := Lib.hid b1
  obtain ⟨ar, cr, rfl, hl⟩ := hs.1.shape
  have hm := maxLen_eq _ hl
  have hmf : ∀ (fn : Fn) (first cap : Array Value) (w : World), (Instr.makeFunc fn first cap).run Tryz.prog w = .ok (.func fn first cap) w := fun _ _ _ _ => rfl
  have HW := Lib.hid hW1
  have C0 := Lib.hid c0
  clear hs b1 c0 c1 hl hW1
  go_enter Tryz.func68, Tryz.ntmps68
  go_wp2_with fail
  rw [← HW.out]
  refine HI.out.mono ?_; rintro e w1 ⟨rfl, hb1⟩
  have HB1 := Lib.hid (HB.out.trans (hb1.mono HB.out.size))
  have HS1 := Lib.hid (HS.out.mono hb1 fun _ _ h => h)
  have c0 := (hb1.cell (p := ⟨w.heap.size, 0, none⟩) (blk_z C0.out)).trans C0.out
  clear hb1 HI HB HS
  rcases first_fidx x.rl s.rules with ⟨h1, h2⟩ | ⟨k, hk, h1, h2⟩
  · have H2 := Lib.hid h2
    generalize fidx (frP x.rl) s.rules = i at *
    clear h2
    go_wp2
    go_ret
    exact ⟨by rw [H2.out]; rfl, HB1.out⟩
  · obtain ⟨b, off, rfl, hb, ⟨-, -, -, -, -, -, -, -, -, -, d10⟩, -⟩ := elemRul HS1.out k hk
    rw [h1]
    have H2 := Lib.hid h2
    have hki : (k : Int) < (s.rules.length : Int) := by omega
    have hk0 : ¬ (k : Int) < 0 := by omega
    clear h1 h2
    go_wp2
    go_ret
    exact ⟨by rw [H2.out]; rfl, HB1.out⟩
end Go.Proofs.YtbikdlcjbigafaaGreatDoor
namespace Go.Proofs.YtbikdlcjbigafaaGreatDoor
set_option linter.unusedVariables false
set_option linter.unusedSimpArgs false
open Go.ChangeShapes Go.WideShapes Go.ChangeAt Go.RowKit Civ

theorem rulE_a {r : Rul} (h : nameS r.nm = false) : rulE r = 4 := by unfold rulE; rw [if_pos (.inl h)]
theorem rulE_b {r : Rul} (h : letsB r.lt = false) : rulE r = 4 := by unfold rulE; rw [if_pos (.inr h)]
theorem rulE_c {r : Rul} (h1 : nameS r.nm = true) (h2 : letsB r.lt = true) (h : r.fr < 1900 ∨ 2099 < r.to ∨ 2099 < r.fr ∨ r.to < 1900 ∨ r.sv < -86400 ∨ 86400 < r.sv) : rulE r = 2 := by
  unfold rulE; rw [if_neg (by rw [h1, h2]; simp), if_pos h]
theorem rulE_d {r : Rul} (h1 : nameS r.nm = true) (h2 : letsB r.lt = true) (h : ¬ (r.fr < 1900 ∨ 2099 < r.to ∨ 2099 < r.fr ∨ r.to < 1900 ∨ r.sv < -86400 ∨ 86400 < r.sv)) (h3 : r.to < r.fr) : rulE r = 8 := by
  unfold rulE; rw [if_neg (by rw [h1, h2]; simp), if_neg h, if_pos h3]
theorem rulE_e {r : Rul} (h1 : nameS r.nm = true) (h2 : letsB r.lt = true) (h : ¬ (r.fr < 1900 ∨ 2099 < r.to ∨ 2099 < r.fr ∨ r.to < 1900 ∨ r.sv < -86400 ∨ 86400 < r.sv)) (h3 : ¬ r.to < r.fr) : rulE r = chkM r.at'.mo r.at'.k r.at'.a r.at'.n r.at'.t r.at'.c := by
  unfold rulE; rw [if_neg (by rw [h1, h2]; simp), if_neg h, if_neg h3]
set_option maxHeartbeats 2000000 in
set_option maxRecDepth 100000 in
theorem checkRule_any (r : Rul) (w : World) (hr : R64 r) :
    Calls Tryz.prog 60 #[.agg #[.string r.nm, .int .i64 r.fr, .int .i64 r.to, .int .i64 r.at'.mo, .int .i64 r.at'.k, .int .i64 r.at'.a, .int .i64 r.at'.n, .int .i64 r.at'.t, .int .i64 r.at'.c, .int .i64 r.sv, .string r.lt]] w fun e w' => e = .returned (.int .i64 (rulE r)) ∧ Below w.heap.size w w' := by
  obtain ⟨hn, -, -, -, -, hl⟩ := hr
  have N0 := Lib.hid (RulAt.new w r 58)
  have b0 : Below w.heap.size w (w.alloc (.cells #[.string r.nm, .int .i64 r.fr, .int .i64 r.to, .int .i64 r.at'.mo, .int .i64 r.at'.k, .int .i64 r.at'.a, .int .i64 r.at'.n, .int .i64 r.at'.t, .int .i64 r.at'.c, .int .i64 r.sv, .string r.lt] 58)) := (Below.refl _ _).alloc (Nat.le_refl _) _
  have hz := size_alloc w (.cells #[.string r.nm, .int .i64 r.fr, .int .i64 r.to, .int .i64 r.at'.mo, .int .i64 r.at'.k, .int .i64 r.at'.a, .int .i64 r.at'.n, .int .i64 r.at'.t, .int .i64 r.at'.c, .int .i64 r.sv, .string r.lt] 58)
  have B0 := Lib.hid b0
  have HZ := Lib.hid hz
  have HN := Lib.hid (fun w => name_lit r.nm w hn)
  have HL := Lib.hid (fun w => letters_any r.lt w hl)
  have HC := Lib.hid (fun w => checkmoment_any r.at'.mo r.at'.k r.at'.a r.at'.n r.at'.t r.at'.c w)
  clear b0 hz hn hl
  rcases hname : nameS r.nm with _ | _
  · have H1 := Lib.hid hname
    have H2 := Lib.hid (rulE_a hname)
    clear hname
    go_enter Tryz.func60, Tryz.ntmps60
    go_wp2_with fail
    refine (HN.out _).mono ?_; rintro e w1 ⟨rfl, hb1⟩
    rw [H1.out]
    have B1 := Lib.hid (B0.out.trans (hb1.mono B0.out.size))
    clear hb1
    go_wp2
    go_ret
    exact ⟨ret_int H2.out.symm, B1.out⟩
  · have H1 := Lib.hid hname
    clear hname
    go_enter Tryz.func60, Tryz.ntmps60
    go_wp2_with fail
    refine (HN.out _).mono ?_; rintro e w1 ⟨rfl, hb1⟩
    rw [H1.out]
    have B1 := Lib.hid (B0.out.trans (hb1.mono B0.out.size))
    have N1 := Lib.hid (N0.out.below hb1 (by rw [HZ.out]; exact Nat.lt_succ_self _))
    have Z1 : Hid (w.heap.size < w1.heap.size) := by show _ < _; have := hb1.size; have := HZ.out; omega
    clear hb1
    obtain ⟨-, -, -, -, -, -, -, -, -, -, c10⟩ := N1.out
    go_wp2_with fail
    refine (HL.out _).mono ?_; rintro e w2 ⟨rfl, hb2⟩
    have B2 := Lib.hid (B1.out.trans (hb2.mono B1.out.size))
    have N2 := Lib.hid (N1.out.below hb2 Z1.out)
    clear hb2 c10 N1
    rcases hlet : letsB r.lt with _ | _
    · have H2 := Lib.hid (rulE_b hlet)
      clear hlet
      go_wp2
      go_ret
      exact ⟨ret_int H2.out.symm, B2.out⟩
    · have H2 := Lib.hid hlet
      clear hlet
      obtain ⟨c0, c1, c2, c3, c4, c5, c6, c7, c8, c9, c10⟩ := N2.out
      simp only [Nat.zero_add] at c0 c1 c2 c3 c4 c5 c6 c7 c8 c9 c10
      by_cases h3 : r.fr < 1900 ∨ 2099 < r.to ∨ 2099 < r.fr ∨ r.to < 1900 ∨ r.sv < -86400 ∨ 86400 < r.sv
      · have H3 := Lib.hid (rulE_c H1.out H2.out h3)
        rcases (show r.fr < 1900 ∨ (1900 ≤ r.fr ∧ 2099 < r.to) ∨ (1900 ≤ r.fr ∧ r.to ≤ 2099 ∧ 2099 < r.fr) ∨ (1900 ≤ r.fr ∧ r.to ≤ 2099 ∧ r.fr ≤ 2099 ∧ r.to < 1900) ∨ (1900 ≤ r.fr ∧ r.to ≤ 2099 ∧ r.fr ≤ 2099 ∧ 1900 ≤ r.to ∧ r.sv < -86400) ∨ (1900 ≤ r.fr ∧ r.to ≤ 2099 ∧ r.fr ≤ 2099 ∧ 1900 ≤ r.to ∧ -86400 ≤ r.sv ∧ 86400 < r.sv) by omega) with q1 | ⟨q1, q2⟩ | ⟨q1, q2, q3⟩ | ⟨q1, q2, q3, q4⟩ | ⟨q1, q2, q3, q4, q5⟩ | ⟨q1, q2, q3, q4, q5, q6⟩
        all_goals
          clear h3
          go_wp2
          go_ret
          exact ⟨ret_int H3.out.symm, B2.out⟩
      · obtain ⟨q1, q2, q3, q4, q5, q6⟩ : 1900 ≤ r.fr ∧ r.to ≤ 2099 ∧ r.fr ≤ 2099 ∧ 1900 ≤ r.to ∧ -86400 ≤ r.sv ∧ r.sv ≤ 86400 := by omega
        by_cases h4 : r.to < r.fr
        · have H3 := Lib.hid (rulE_d H1.out H2.out h3 h4)
          clear h3
          go_wp2
          go_ret
          exact ⟨ret_int H3.out.symm, B2.out⟩
        · have H3 := Lib.hid (rulE_e H1.out H2.out h3 h4)
          have q7 : r.fr ≤ r.to := by omega
          clear h3 h4
          go_wp2_with fail
          refine (HC.out _).mono ?_; rintro e w3 ⟨rfl, hb3⟩
          have B3 := Lib.hid (B2.out.trans (hb3.mono B2.out.size))
          clear hb3
          go_wp2
          go_ret
          exact ⟨ret_int H3.out.symm, B3.out⟩
end Go.Proofs.YtbikdlcjbigafaaGreatDoor
