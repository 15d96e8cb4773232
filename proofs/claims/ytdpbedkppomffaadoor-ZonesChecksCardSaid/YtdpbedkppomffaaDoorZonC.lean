/-
  Elements of rules, eras, zones and links in memory; slices.IndexFunc over them (printed by zongen.py).
-/
import Derived.Test.YtdpbedkppomffaaDoorZonB
import Derived.Test.YtdpbedkppomffaaDoorStbH
import Derived.Test.YtdpbedkppomffaaDoorMxl
import Derived.Test.YtdpbedkppomffaaDoorFmtB
import Derived.Test.YtdpbedkppomffaaDoorCivilE
import Derived.Test.YtdpbedkppomffaaDoorRefC
namespace Go.Proofs.YtdpbedkppomffaaDoor
set_option linter.unusedVariables false
set_option linter.unusedSimpArgs false
open Go.ChangeShapes Go.WideShapes Go.ChangeAt Go.RowKit

/-- the cells at an address are those of x. -/
def RulAt (w : World) (b o : Nat) (x : Rul) : Prop := w.cell? ⟨b, o, none⟩ = some (.string x.nm) ∧ w.cell? ⟨b, o + 1, none⟩ = some (.int .i64 x.fr) ∧ w.cell? ⟨b, o + 2, none⟩ = some (.int .i64 x.to) ∧ w.cell? ⟨b, o + 3, none⟩ = some (.int .i64 x.at'.mo) ∧ w.cell? ⟨b, o + 4, none⟩ = some (.int .i64 x.at'.k) ∧ w.cell? ⟨b, o + 5, none⟩ = some (.int .i64 x.at'.a) ∧ w.cell? ⟨b, o + 6, none⟩ = some (.int .i64 x.at'.n) ∧ w.cell? ⟨b, o + 7, none⟩ = some (.int .i64 x.at'.t) ∧ w.cell? ⟨b, o + 8, none⟩ = some (.int .i64 x.at'.c) ∧ w.cell? ⟨b, o + 9, none⟩ = some (.int .i64 x.sv) ∧ w.cell? ⟨b, o + 10, none⟩ = some (.string x.lt)
theorem elemRul {w : World} {aa : Option Addr} {n ca : Nat} {xs : List Rul} (h : SlAt w 11 RRul (.slice aa n ca) xs) (k : Nat) (hk : k < xs.length) :
    ∃ b off, aa = some ⟨b, off, none⟩ ∧ b < w.heap.size ∧ RulAt w b (off + k * 11) xs[k] ∧ R64 xs[k] := by
  rcases h with ⟨a, cap, _, rfl⟩ | ⟨b, off, cap, e, h0, h1, h2, h3, h4⟩
  · simp at hk
  · obtain ⟨cs, hl, ⟨rfl, hf⟩, hc⟩ := h4 k hk
    simp only [Value.slice.injEq] at e
    obtain ⟨rfl, -, -⟩ := e
    exact ⟨b, off, rfl, h3, ⟨hc 0 (by omega), hc 1 (by omega), hc 2 (by omega), hc 3 (by omega), hc 4 (by omega), hc 5 (by omega), hc 6 (by omega), hc 7 (by omega), hc 8 (by omega), hc 9 (by omega), hc 10 (by omega)⟩, hf⟩
theorem RulAt.below {w w' : World} {b o : Nat} {x : Rul} (h : RulAt w b o x) (hb : Below w.heap.size w w') (hz : b < w.heap.size) : RulAt w' b o x := by
  obtain ⟨h0, h1, h2, h3, h4, h5, h6, h7, h8, h9, h10⟩ := h
  exact ⟨(hb.cell (p := ⟨b, _, none⟩) hz).trans h0, (hb.cell (p := ⟨b, _, none⟩) hz).trans h1, (hb.cell (p := ⟨b, _, none⟩) hz).trans h2, (hb.cell (p := ⟨b, _, none⟩) hz).trans h3, (hb.cell (p := ⟨b, _, none⟩) hz).trans h4, (hb.cell (p := ⟨b, _, none⟩) hz).trans h5, (hb.cell (p := ⟨b, _, none⟩) hz).trans h6, (hb.cell (p := ⟨b, _, none⟩) hz).trans h7, (hb.cell (p := ⟨b, _, none⟩) hz).trans h8, (hb.cell (p := ⟨b, _, none⟩) hz).trans h9, (hb.cell (p := ⟨b, _, none⟩) hz).trans h10⟩
theorem RulAt.new (w : World) (x : Rul) (T : TypeId) : RulAt (w.alloc (.cells #[.string x.nm, .int .i64 x.fr, .int .i64 x.to, .int .i64 x.at'.mo, .int .i64 x.at'.k, .int .i64 x.at'.a, .int .i64 x.at'.n, .int .i64 x.at'.t, .int .i64 x.at'.c, .int .i64 x.sv, .string x.lt] T)) w.heap.size 0 x :=
  ⟨(World.cell?_alloc_at (w := w) _ _ w.heap.size _ rfl).trans rfl, (World.cell?_alloc_at (w := w) _ _ w.heap.size _ rfl).trans rfl, (World.cell?_alloc_at (w := w) _ _ w.heap.size _ rfl).trans rfl, (World.cell?_alloc_at (w := w) _ _ w.heap.size _ rfl).trans rfl, (World.cell?_alloc_at (w := w) _ _ w.heap.size _ rfl).trans rfl, (World.cell?_alloc_at (w := w) _ _ w.heap.size _ rfl).trans rfl, (World.cell?_alloc_at (w := w) _ _ w.heap.size _ rfl).trans rfl, (World.cell?_alloc_at (w := w) _ _ w.heap.size _ rfl).trans rfl, (World.cell?_alloc_at (w := w) _ _ w.heap.size _ rfl).trans rfl, (World.cell?_alloc_at (w := w) _ _ w.heap.size _ rfl).trans rfl, (World.cell?_alloc_at (w := w) _ _ w.heap.size _ rfl).trans rfl⟩
/-- the cells at an address are those of x. -/
def EroAt (w : World) (b o : Nat) (x : Ero) : Prop := w.cell? ⟨b, o, none⟩ = some (.int .i64 x.off) ∧ w.cell? ⟨b, o + 1, none⟩ = some (.string x.rl) ∧ w.cell? ⟨b, o + 2, none⟩ = some (.int .i64 x.sv) ∧ w.cell? ⟨b, o + 3, none⟩ = some (.string x.fm) ∧ w.cell? ⟨b, o + 4, none⟩ = some (.bool x.en) ∧ w.cell? ⟨b, o + 5, none⟩ = some (.int .i64 x.yr) ∧ w.cell? ⟨b, o + 6, none⟩ = some (.int .i64 x.un.mo) ∧ w.cell? ⟨b, o + 7, none⟩ = some (.int .i64 x.un.k) ∧ w.cell? ⟨b, o + 8, none⟩ = some (.int .i64 x.un.a) ∧ w.cell? ⟨b, o + 9, none⟩ = some (.int .i64 x.un.n) ∧ w.cell? ⟨b, o + 10, none⟩ = some (.int .i64 x.un.t) ∧ w.cell? ⟨b, o + 11, none⟩ = some (.int .i64 x.un.c)
theorem elemEro {w : World} {aa : Option Addr} {n ca : Nat} {xs : List Ero} (h : SlAt w 12 REro (.slice aa n ca) xs) (k : Nat) (hk : k < xs.length) :
    ∃ b off, aa = some ⟨b, off, none⟩ ∧ b < w.heap.size ∧ EroAt w b (off + k * 12) xs[k] ∧ E64 xs[k] := by
  rcases h with ⟨a, cap, _, rfl⟩ | ⟨b, off, cap, e, h0, h1, h2, h3, h4⟩
  · simp at hk
  · obtain ⟨cs, hl, ⟨rfl, hf⟩, hc⟩ := h4 k hk
    simp only [Value.slice.injEq] at e
    obtain ⟨rfl, -, -⟩ := e
    exact ⟨b, off, rfl, h3, ⟨hc 0 (by omega), hc 1 (by omega), hc 2 (by omega), hc 3 (by omega), hc 4 (by omega), hc 5 (by omega), hc 6 (by omega), hc 7 (by omega), hc 8 (by omega), hc 9 (by omega), hc 10 (by omega), hc 11 (by omega)⟩, hf⟩
theorem EroAt.below {w w' : World} {b o : Nat} {x : Ero} (h : EroAt w b o x) (hb : Below w.heap.size w w') (hz : b < w.heap.size) : EroAt w' b o x := by
  obtain ⟨h0, h1, h2, h3, h4, h5, h6, h7, h8, h9, h10, h11⟩ := h
  exact ⟨(hb.cell (p := ⟨b, _, none⟩) hz).trans h0, (hb.cell (p := ⟨b, _, none⟩) hz).trans h1, (hb.cell (p := ⟨b, _, none⟩) hz).trans h2, (hb.cell (p := ⟨b, _, none⟩) hz).trans h3, (hb.cell (p := ⟨b, _, none⟩) hz).trans h4, (hb.cell (p := ⟨b, _, none⟩) hz).trans h5, (hb.cell (p := ⟨b, _, none⟩) hz).trans h6, (hb.cell (p := ⟨b, _, none⟩) hz).trans h7, (hb.cell (p := ⟨b, _, none⟩) hz).trans h8, (hb.cell (p := ⟨b, _, none⟩) hz).trans h9, (hb.cell (p := ⟨b, _, none⟩) hz).trans h10, (hb.cell (p := ⟨b, _, none⟩) hz).trans h11⟩
theorem EroAt.new (w : World) (x : Ero) (T : TypeId) : EroAt (w.alloc (.cells #[.int .i64 x.off, .string x.rl, .int .i64 x.sv, .string x.fm, .bool x.en, .int .i64 x.yr, .int .i64 x.un.mo, .int .i64 x.un.k, .int .i64 x.un.a, .int .i64 x.un.n, .int .i64 x.un.t, .int .i64 x.un.c] T)) w.heap.size 0 x :=
  ⟨(World.cell?_alloc_at (w := w) _ _ w.heap.size _ rfl).trans rfl, (World.cell?_alloc_at (w := w) _ _ w.heap.size _ rfl).trans rfl, (World.cell?_alloc_at (w := w) _ _ w.heap.size _ rfl).trans rfl, (World.cell?_alloc_at (w := w) _ _ w.heap.size _ rfl).trans rfl, (World.cell?_alloc_at (w := w) _ _ w.heap.size _ rfl).trans rfl, (World.cell?_alloc_at (w := w) _ _ w.heap.size _ rfl).trans rfl, (World.cell?_alloc_at (w := w) _ _ w.heap.size _ rfl).trans rfl, (World.cell?_alloc_at (w := w) _ _ w.heap.size _ rfl).trans rfl, (World.cell?_alloc_at (w := w) _ _ w.heap.size _ rfl).trans rfl, (World.cell?_alloc_at (w := w) _ _ w.heap.size _ rfl).trans rfl, (World.cell?_alloc_at (w := w) _ _ w.heap.size _ rfl).trans rfl, (World.cell?_alloc_at (w := w) _ _ w.heap.size _ rfl).trans rfl⟩
/-- the cells at an address are those of x. -/
def LnkAt (w : World) (b o : Nat) (x : Lnk) : Prop := w.cell? ⟨b, o, none⟩ = some (.string x.of) ∧ w.cell? ⟨b, o + 1, none⟩ = some (.string x.nm)
theorem elemLnk {w : World} {aa : Option Addr} {n ca : Nat} {xs : List Lnk} (h : SlAt w 2 RLnk (.slice aa n ca) xs) (k : Nat) (hk : k < xs.length) :
    ∃ b off, aa = some ⟨b, off, none⟩ ∧ b < w.heap.size ∧ LnkAt w b (off + k * 2) xs[k] ∧ (xs[k].of.size ≤ maxLen ∧ xs[k].nm.size ≤ maxLen) := by
  rcases h with ⟨a, cap, _, rfl⟩ | ⟨b, off, cap, e, h0, h1, h2, h3, h4⟩
  · simp at hk
  · obtain ⟨cs, hl, ⟨rfl, hf⟩, hc⟩ := h4 k hk
    simp only [Value.slice.injEq] at e
    obtain ⟨rfl, -, -⟩ := e
    exact ⟨b, off, rfl, h3, ⟨hc 0 (by omega), hc 1 (by omega)⟩, hf⟩
theorem LnkAt.below {w w' : World} {b o : Nat} {x : Lnk} (h : LnkAt w b o x) (hb : Below w.heap.size w w') (hz : b < w.heap.size) : LnkAt w' b o x := by
  obtain ⟨h0, h1⟩ := h
  exact ⟨(hb.cell (p := ⟨b, _, none⟩) hz).trans h0, (hb.cell (p := ⟨b, _, none⟩) hz).trans h1⟩
theorem LnkAt.new (w : World) (x : Lnk) (T : TypeId) : LnkAt (w.alloc (.cells #[.string x.of, .string x.nm] T)) w.heap.size 0 x :=
  ⟨(World.cell?_alloc_at (w := w) _ _ w.heap.size _ rfl).trans rfl, (World.cell?_alloc_at (w := w) _ _ w.heap.size _ rfl).trans rfl⟩
theorem elemZon {w : World} {aa : Option Addr} {n ca : Nat} {xs : List Zon} (h : SlAt w 2 (RZon w) (.slice aa n ca) xs) (k : Nat) (hk : k < xs.length) :
    ∃ b off v, aa = some ⟨b, off, none⟩ ∧ b < w.heap.size ∧ (w.cell? ⟨b, off + k * 2, none⟩ = some (.string xs[k].nm) ∧ w.cell? ⟨b, off + k * 2 + 1, none⟩ = some v) ∧ SlAt w 12 REro v xs[k].eras ∧ xs[k].nm.size ≤ maxLen := by
  rcases h with ⟨a, cap, _, rfl⟩ | ⟨b, off, cap, e, h0, h1, h2, h3, h4⟩
  · simp at hk
  · obtain ⟨cs, hl, ⟨v, rfl, hv, hf⟩, hc⟩ := h4 k hk
    simp only [Value.slice.injEq] at e
    obtain ⟨rfl, -, -⟩ := e
    exact ⟨b, off, v, rfl, h3, ⟨hc 0 (by omega), hc 1 (by omega)⟩, hv, hf⟩
set_option maxHeartbeats 1000000 in
set_option maxRecDepth 100000 in
theorem idxRul_any (p : Rul → Bool) (F : Nat) (c : Value) (v : Value) (xs : List Rul) (w : World) (hv : SlAt w 11 RRul v xs) (eg : ∀ args w, (callFunc F args).run Tryd.prog w = .ok (.enter F args) w)
    (hF : ∀ x ∈ xs, ∀ w1 : World, Below w.heap.size w w1 → Calls Tryd.prog F #[.agg #[.string x.nm, .int .i64 x.fr, .int .i64 x.to, .int .i64 x.at'.mo, .int .i64 x.at'.k, .int .i64 x.at'.a, .int .i64 x.at'.n, .int .i64 x.at'.t, .int .i64 x.at'.c, .int .i64 x.sv, .string x.lt], c] w1 fun e w' => e = .returned (.bool (p x)) ∧ Below w1.heap.size w1 w') :
    Calls Tryd.prog 110 #[v, .func (.func F) #[] #[c]] w fun e w' => e = .returned (.int .i64 (fidx p xs)) ∧ Below w.heap.size w w' := by
  obtain ⟨av, cv, rfl, hl⟩ := hv.shape
  have hm := maxLen_eq _ hl
  have HF := Lib.hid hF
  have HV := Lib.hid hv
  clear hF hv hl
  go_enter Tryd.func110, Tryd.ntmps110
  go_wp2
  go_loopw [8, 5] (fun t _ wr => ∃ k : Nat, k ≤ xs.length ∧ t = .int .i64 k ∧ Hid (∀ i (hi : i < xs.length), i < k → p xs[i] = false) ∧ Hid (Below w.heap.size w wr)) (fun t _ _ => (xs.length - intOf t).toNat)
  case atStart => exact ⟨0, by omega, rfl, fun i _ h => by omega, Below.refl _ _⟩
  case round =>
    obtain ⟨k, hk, rfl, hn, HB⟩ := hrel
    by_cases hlt : k < xs.length
    · obtain ⟨b, off, rfl, hb, ⟨c0, c1, c2, c3, c4, c5, c6, c7, c8, c9, c10⟩, -⟩ := elemRul (HV.out.mono HB.out fun _ _ h => h) k hlt
      have HC := Lib.hid (HF.out xs[k] (List.getElem_mem hlt) wr HB.out)
      have hlti : (k : Int) < (xs.length : Int) := by omega
      by_cases hp : p xs[k] = true
      · have hfin := Lib.hid (fidx_at p xs k hlt (fun i hi => hn.out i (by omega) hi) hp)
        generalize xs[k] = x at *
        rw [hp] at HC
        clear hp
        go_wp2_with fail
        refine HC.out.mono ?_; rintro e w1 ⟨rfl, hb1⟩
        have HB1 := Lib.hid (HB.out.trans (hb1.mono HB.out.size))
        clear hb1 HC hb
        go_wp2
        go_ret
        exact ⟨ret_int hfin.out.symm, HB1.out⟩
      · have hp' : p xs[k] = false := by simpa using hp
        clear hp
        have hn' : Hid (∀ i (hi : i < xs.length), i < k + 1 → p xs[i] = false) := fun i hi h => by
          by_cases e : i = k
          · subst e; exact hp'
          · exact hn.out i hi (by omega)
        generalize xs[k] = x at *
        rw [hp'] at HC
        clear hp'
        go_wp2_with fail
        refine HC.out.mono ?_; rintro e w1 ⟨rfl, hb1⟩
        have HB1 := Lib.hid (HB.out.trans (hb1.mono HB.out.size))
        clear hb1 HC hb
        go_wp2
        go_roundw
        case rel => exact ⟨k + 1, by omega, by go_num, hn', HB1⟩
        case measure => simp [intOf]; omega
    · have hfin := Lib.hid (fidx_none p xs (fun i hi => hn.out i hi (by omega)))
      have hnlt : ¬ (k : Int) < (xs.length : Int) := by omega
      go_wp2
      go_ret
      exact ⟨ret_int hfin.out.symm, HB.out⟩
set_option maxHeartbeats 1000000 in
set_option maxRecDepth 100000 in
theorem idxLnk_any (p : Lnk → Bool) (F : Nat) (c : Value) (v : Value) (xs : List Lnk) (w : World) (hv : SlAt w 2 RLnk v xs) (eg : ∀ args w, (callFunc F args).run Tryd.prog w = .ok (.enter F args) w)
    (hF : ∀ x ∈ xs, ∀ w1 : World, Below w.heap.size w w1 → Calls Tryd.prog F #[.agg #[.string x.of, .string x.nm], c] w1 fun e w' => e = .returned (.bool (p x)) ∧ Below w1.heap.size w1 w') :
    Calls Tryd.prog 58 #[v, .func (.func F) #[] #[c]] w fun e w' => e = .returned (.int .i64 (fidx p xs)) ∧ Below w.heap.size w w' := by
  obtain ⟨av, cv, rfl, hl⟩ := hv.shape
  have hm := maxLen_eq _ hl
  have HF := Lib.hid hF
  have HV := Lib.hid hv
  clear hF hv hl
  go_enter Tryd.func58, Tryd.ntmps58
  go_wp2
  go_loopw [8, 5] (fun t _ wr => ∃ k : Nat, k ≤ xs.length ∧ t = .int .i64 k ∧ Hid (∀ i (hi : i < xs.length), i < k → p xs[i] = false) ∧ Hid (Below w.heap.size w wr)) (fun t _ _ => (xs.length - intOf t).toNat)
  case atStart => exact ⟨0, by omega, rfl, fun i _ h => by omega, Below.refl _ _⟩
  case round =>
    obtain ⟨k, hk, rfl, hn, HB⟩ := hrel
    by_cases hlt : k < xs.length
    · obtain ⟨b, off, rfl, hb, ⟨c0, c1⟩, -⟩ := elemLnk (HV.out.mono HB.out fun _ _ h => h) k hlt
      have HC := Lib.hid (HF.out xs[k] (List.getElem_mem hlt) wr HB.out)
      have hlti : (k : Int) < (xs.length : Int) := by omega
      by_cases hp : p xs[k] = true
      · have hfin := Lib.hid (fidx_at p xs k hlt (fun i hi => hn.out i (by omega) hi) hp)
        generalize xs[k] = x at *
        rw [hp] at HC
        clear hp
        go_wp2_with fail
        refine HC.out.mono ?_; rintro e w1 ⟨rfl, hb1⟩
        have HB1 := Lib.hid (HB.out.trans (hb1.mono HB.out.size))
        clear hb1 HC hb
        go_wp2
        go_ret
        exact ⟨ret_int hfin.out.symm, HB1.out⟩
      · have hp' : p xs[k] = false := by simpa using hp
        clear hp
        have hn' : Hid (∀ i (hi : i < xs.length), i < k + 1 → p xs[i] = false) := fun i hi h => by
          by_cases e : i = k
          · subst e; exact hp'
          · exact hn.out i hi (by omega)
        generalize xs[k] = x at *
        rw [hp'] at HC
        clear hp'
        go_wp2_with fail
        refine HC.out.mono ?_; rintro e w1 ⟨rfl, hb1⟩
        have HB1 := Lib.hid (HB.out.trans (hb1.mono HB.out.size))
        clear hb1 HC hb
        go_wp2
        go_roundw
        case rel => exact ⟨k + 1, by omega, by go_num, hn', HB1⟩
        case measure => simp [intOf]; omega
    · have hfin := Lib.hid (fidx_none p xs (fun i hi => hn.out i hi (by omega)))
      have hnlt : ¬ (k : Int) < (xs.length : Int) := by omega
      go_wp2
      go_ret
      exact ⟨ret_int hfin.out.symm, HB.out⟩
set_option maxHeartbeats 1000000 in
set_option maxRecDepth 100000 in
theorem idxZon_any (p : Zon → Bool) (F : Nat) (c : Value) (v : Value) (xs : List Zon) (w : World) (hv : SlAt w 2 (RZon w) v xs) (eg : ∀ args w, (callFunc F args).run Tryd.prog w = .ok (.enter F args) w)
    (hF : ∀ x ∈ xs, ∀ u, ∀ w1 : World, Below w.heap.size w w1 → Calls Tryd.prog F #[.agg #[.string x.nm, u], c] w1 fun e w' => e = .returned (.bool (p x)) ∧ Below w1.heap.size w1 w') :
    Calls Tryd.prog 56 #[v, .func (.func F) #[] #[c]] w fun e w' => e = .returned (.int .i64 (fidx p xs)) ∧ Below w.heap.size w w' := by
  obtain ⟨av, cv, rfl, hl⟩ := hv.shape
  have hm := maxLen_eq _ hl
  have HF := Lib.hid hF
  have HV := Lib.hid hv
  clear hF hv hl
  go_enter Tryd.func56, Tryd.ntmps56
  go_wp2
  go_loopw [8, 5] (fun t _ wr => ∃ k : Nat, k ≤ xs.length ∧ t = .int .i64 k ∧ Hid (∀ i (hi : i < xs.length), i < k → p xs[i] = false) ∧ Hid (Below w.heap.size w wr)) (fun t _ _ => (xs.length - intOf t).toNat)
  case atStart => exact ⟨0, by omega, rfl, fun i _ h => by omega, Below.refl _ _⟩
  case round =>
    obtain ⟨k, hk, rfl, hn, HB⟩ := hrel
    by_cases hlt : k < xs.length
    · obtain ⟨b, off, u, rfl, hb, ⟨c0, c1⟩, -, -⟩ := elemZon (HV.out.mono HB.out (RZon.mono HB.out)) k hlt
      have HC := Lib.hid (HF.out xs[k] (List.getElem_mem hlt) u wr HB.out)
      have hlti : (k : Int) < (xs.length : Int) := by omega
      by_cases hp : p xs[k] = true
      · have hfin := Lib.hid (fidx_at p xs k hlt (fun i hi => hn.out i (by omega) hi) hp)
        generalize xs[k] = x at *
        rw [hp] at HC
        clear hp
        go_wp2_with fail
        refine HC.out.mono ?_; rintro e w1 ⟨rfl, hb1⟩
        have HB1 := Lib.hid (HB.out.trans (hb1.mono HB.out.size))
        clear hb1 HC hb
        go_wp2
        go_ret
        exact ⟨ret_int hfin.out.symm, HB1.out⟩
      · have hp' : p xs[k] = false := by simpa using hp
        clear hp
        have hn' : Hid (∀ i (hi : i < xs.length), i < k + 1 → p xs[i] = false) := fun i hi h => by
          by_cases e : i = k
          · subst e; exact hp'
          · exact hn.out i hi (by omega)
        generalize xs[k] = x at *
        rw [hp'] at HC
        clear hp'
        go_wp2_with fail
        refine HC.out.mono ?_; rintro e w1 ⟨rfl, hb1⟩
        have HB1 := Lib.hid (HB.out.trans (hb1.mono HB.out.size))
        clear hb1 HC hb
        go_wp2
        go_roundw
        case rel => exact ⟨k + 1, by omega, by go_num, hn', HB1⟩
        case measure => simp [intOf]; omega
    · have hfin := Lib.hid (fidx_none p xs (fun i hi => hn.out i hi (by omega)))
      have hnlt : ¬ (k : Int) < (xs.length : Int) := by omega
      go_wp2
      go_ret
      exact ⟨ret_int hfin.out.symm, HB.out⟩
set_option maxHeartbeats 1000000 in
theorem contRul_any (p : Rul → Bool) (F : Nat) (c : Value) (v : Value) (xs : List Rul) (w : World) (hv : SlAt w 11 RRul v xs) (eg : ∀ args w, (callFunc F args).run Tryd.prog w = .ok (.enter F args) w)
    (hF : ∀ x ∈ xs, ∀ w1 : World, Below w.heap.size w w1 → Calls Tryd.prog F #[.agg #[.string x.nm, .int .i64 x.fr, .int .i64 x.to, .int .i64 x.at'.mo, .int .i64 x.at'.k, .int .i64 x.at'.a, .int .i64 x.at'.n, .int .i64 x.at'.t, .int .i64 x.at'.c, .int .i64 x.sv, .string x.lt], c] w1 fun e w' => e = .returned (.bool (p x)) ∧ Below w1.heap.size w1 w') :
    Calls Tryd.prog 131 #[v, .func (.func F) #[] #[c]] w fun e w' => e = .returned (.bool (xs.any p)) ∧ Below w.heap.size w w' := by
  have HI := Lib.hid (idxRul_any p F c v xs w hv eg hF)
  have HA := Lib.hid (fidx_any p xs)
  clear hF eg hv
  go_enter Tryd.func131, Tryd.ntmps131
  go_wp2_with fail
  refine HI.out.mono ?_; rintro e w1 ⟨rfl, hb1⟩
  have HB1 := Lib.hid hb1
  clear hb1
  go_wp2
  go_ret
  exact ⟨ret_bool HA.out, HB1.out⟩
end Go.Proofs.YtdpbedkppomffaaDoor
