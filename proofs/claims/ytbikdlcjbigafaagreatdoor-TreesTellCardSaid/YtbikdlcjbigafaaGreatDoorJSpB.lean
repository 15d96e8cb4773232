/-
  zones.spans: the closure that adds a span.
-/
import Derived.Maps.AppendAt
import Derived.BigQuiet
import Derived.Test.YtbikdlcjbigafaaGreatDoorJAtD
namespace Go.Proofs.YtbikdlcjbigafaaGreatDoor
set_option linter.unusedVariables false
set_option linter.unusedSimpArgs false
open Go.ChangeShapes Go.WideShapes Go.ChangeAt Go.RowKit Civ

def encQ (x : Spn) : List Value := [.int .i64 x.fr, .int .i64 x.ck.off, .bool x.ck.sav, .string x.ck.nm]
theorem encQ_one (x : Spn) : ∀ u ∈ encQ x, u.oneCell' = true := by
  intro u hu
  simp [encQ] at hu
  rcases hu with rfl | rfl | rfl | rfl <;> rfl
theorem info_spn : (Tryz.prog.info? 39).map (fun i => (i.zero, i.size, i.bytes)) = some (some (.agg #[.int .i64 0, .int .i64 0, .bool false, .string ⟨#[]⟩]), 4, 40) := by kernel_rfl
/-- boxes of other types, but for one, are as they were. -/
def KpS (O : Nat) (w w' : World) : Prop := ∀ (b : Nat) (cs : Array Value) (t : TypeId), BxO w b cs t → t ≠ 39 → b ≠ O → BxO w' b cs t
theorem KpS.refl (O : Nat) (w : World) : KpS O w w := fun _ _ _ h _ _ => h
theorem KpS.trans {O : Nat} {w w1 w2 : World} (h : KpS O w w1) (g : KpS O w1 w2) : KpS O w w2 := fun b cs t h1 h2 h3 => g b cs t (h b cs t h1 h2 h3) h2 h3
theorem KpS.of_below {O : Nat} {w w' : World} (hb : Below w.heap.size w w') : KpS O w w' := fun b cs t h _ _ => (hb.block _ h.lt).trans h
theorem KpS.own {O D n sz : Nat} {w w' : World} {e : TypeId} {v : Value} {xs : List Value} (h : KpS O w w') (ho : w.ownsRow D e sz v n xs) (he : e ≠ 39) (hO : v.ownBlock ≠ some O) : w'.ownsRow D e sz v n xs := by
  obtain ⟨h1, h2⟩ := ho
  refine ⟨h1, ?_⟩
  rcases h2 with h2 | ⟨g, cap, cur, hv, hg, hh, r⟩
  · exact .inl h2
  · exact .inr ⟨g, cap, cur, hv, hg, h g cur e hh he (fun e' => hO (by rw [hv, ← e']; rfl)), r⟩
/-- a row that is read, where its own block is as it was. -/
theorem slAt_block {α : Type} {w w' : World} {sz : Nat} {R : List Value → α → Prop} {v : Value} {xs : List α} (h : SlAt w sz R v xs) (hs : w.heap.size ≤ w'.heap.size) (hb : xs ≠ [] → ∀ b o n c, v = .slice (some ⟨b, o, none⟩) n c → w'.heap[b]? = w.heap[b]?) : SlAt w' sz R v xs := by
  rcases h with h | ⟨d, off, cap, hv, p0, p1, p2, p3, p4⟩
  · exact .inl h
  · refine .inr ⟨d, off, cap, hv, p0, p1, p2, by omega, fun i hi => ?_⟩
    obtain ⟨cs, h1, h2, h3⟩ := p4 i hi
    exact ⟨cs, h1, h2, fun j hj => (World.cell?_of_block (a := ⟨d, _, none⟩) (hb (fun e => by rw [e] at hi; simp at hi) d off _ _ hv)).trans (h3 j hj)⟩
/-- what the closure holds: a source, an era, its changes; spans that are told so far. -/
structure AdB (w0 w : World) (S E C O D : Nat) (vr vz vl vT vo : Value) (x : Ero) (T : List Trn) (l : List Spn) : Prop where
  s : BxO w S #[vr, vz, vl] 28
  e : BxO w E #[.int .i64 x.off, .string x.rl, .int .i64 x.sv, .string x.fm, .bool x.en, .int .i64 x.yr, .int .i64 x.un.mo, .int .i64 x.un.k, .int .i64 x.un.a, .int .i64 x.un.n, .int .i64 x.un.t, .int .i64 x.un.c] 68
  c : BxO w C #[vT] 94
  o : BxO w O #[vo] 31
  r : w.ownsRow D 39 4 vo l.length (l.flatMap encQ)
  t : SlAt w 4 RChg vT T
  a : T ≠ [] → ∀ b o n c, vT = .slice (some ⟨b, o, none⟩) n c → vo.ownBlock ≠ some b ∧ b ≠ O ∧ b < w.heap.size
  b : Below w0.heap.size w0 w
  d0 : w0.heap.size ≤ D
  d1 : D ≤ w.heap.size
  no : S ≠ O ∧ E ≠ O ∧ C ≠ O ∧ D ≤ O
theorem AdB.next {w0 w w' : World} {S E C O D : Nat} {vr vz vl vT vo : Value} {x : Ero} {T : List Trn} {l : List Spn} (h : AdB w0 w S E C O D vr vz vl vT vo x T l) (hb : Below w.heap.size w w') : AdB w0 w' S E C O D vr vz vl vT vo x T l :=
  ⟨(hb.block _ h.s.lt).trans h.s, (hb.block _ h.e.lt).trans h.e, (hb.block _ h.c.lt).trans h.c, (hb.block _ h.o.lt).trans h.o, ownsRow_below h.r hb (Nat.le_refl _),
    slAt_block h.t hb.size (fun hn b o n c e => hb.block _ (h.a hn b o n c e).2.2), fun hn b o n c e => ⟨(h.a hn b o n c e).1, (h.a hn b o n c e).2.1, Nat.lt_of_lt_of_le (h.a hn b o n c e).2.2 hb.size⟩, h.b.trans (hb.mono h.b.size), h.d0, Nat.le_trans h.d1 hb.size, h.no⟩
theorem BxO.grown {w w' : World} {b : Nat} {cs : Array Value} {t e : TypeId} {D sz n : Nat} {v : Value} {xs : List Value} {o : Obj} (h : BxO w b cs t) (ho : w.ownsRow D e sz v n xs) (hne : t ≠ e) (hg : (w.alloc o).grownBy w' v.ownBlock) : BxO w' b cs t := by
  refine (h.alloc o).kept hg ?_
  rcases ho.2 with ⟨rfl, -⟩ | ⟨g, cap, cur, rfl, -, hh, -⟩
  · simp [Value.ownBlock]
  · intro e'
    have e' : b = g := by simpa [Value.ownBlock] using e'
    subst e'
    have h2 : w.heap[b]? = some (.cells cs t (0, 0)) := h
    rw [hh] at h2
    simp only [Option.some.injEq, Obj.cells.injEq] at h2
    exact hne h2.2.1.symm
theorem own_set {w : World} {b D n sz : Nat} {cs : Array Value} {t e : TypeId} {v : Value} {xs : List Value} (ho : w.ownsRow D e sz v n xs) (hb : BxO w b cs t) (hne : t ≠ e) (u : Value) : (w.setCell ⟨b, 0, none⟩ u).ownsRow D e sz v n xs := by
  obtain ⟨h1, h2⟩ := ho
  refine ⟨h1, ?_⟩
  rcases h2 with h2 | ⟨g, cap, cur, hv, hg, hh, r⟩
  · exact .inl h2
  · refine .inr ⟨g, cap, cur, hv, hg, (Below.heap_setCell _ _ _ _ ?_).trans hh, r⟩
    intro e'
    subst e'
    have h2 : w.heap[g]? = some (.cells cs t (0, 0)) := hb
    rw [hh] at h2
    simp only [Option.some.injEq, Obj.cells.injEq] at h2
    exact hne h2.2.1.symm
/-- a span more. -/
theorem AdB.put {w0 w w' : World} {S E C O D : Nat} {vr vz vl vT vo vo' : Value} {x : Ero} {T : List Trn} {l : List Spn} {y : Spn} {ob : Obj} (h : AdB w0 w S E C O D vr vz vl vT vo x T l)
    (ho : w'.ownsRow D 39 4 vo' (l.length + 1) (l.flatMap encQ ++ encQ y)) (hg : (w.alloc ob).grownBy w' vo.ownBlock) (hf : vo'.ownBlock = vo.ownBlock ∨ vo'.ownBlock = some (w.alloc ob).heap.size) :
    AdB w0 (w'.setCell ⟨O, 0, none⟩ vo') S E C O D vr vz vl vT vo' x T (l ++ [y]) ∧ KpS O w (w'.setCell ⟨O, 0, none⟩ vo') ∧ Below D w (w'.setCell ⟨O, 0, none⟩ vo') := by
  have hO := h.o.grown h.r (by decide) hg
  have hbel : Below D w w' := append_keep h.r ((Below.refl D w).alloc h.d1 _) h.d1 hg
  have hsz : w.heap.size + 1 ≤ w'.heap.size := by have := hg.size; rwa [size_alloc] at this
  refine ⟨⟨BxO.other (h.s.grown h.r (by decide) hg) h.no.1 _ _, BxO.other (h.e.grown h.r (by decide) hg) h.no.2.1 _ _, BxO.other (h.c.grown h.r (by decide) hg) h.no.2.2.1 _ _, hO.set0 _, own_set (own_snocG ho) hO (by decide) _, ?_, ?_, ?_, h.d0, ?_, h.no⟩, ?_, ?_⟩
  · refine slAt_block h.t (by rw [World.size_setCell]; omega) fun hn b o n c e => ?_
    obtain ⟨a1, a2, a3⟩ := h.a hn b o n c e
    refine (Below.heap_setCell _ _ _ _ a2).trans ((hg.block b (by rw [size_alloc]; omega) (fun e' => a1 e'.symm)).trans ?_)
    exact (World.grownBy_alloc w _ none).block b a3 (by simp)
  · intro hn b o n c e
    obtain ⟨a1, a2, a3⟩ := h.a hn b o n c e
    refine ⟨?_, a2, by rw [World.size_setCell]; omega⟩
    rcases hf with hf | hf
    · rw [hf]; exact a1
    · rw [hf, size_alloc]
      intro e'
      have : w.heap.size + 1 = b := Option.some.inj e'
      omega
  · exact (h.b.trans (hbel.mono h.d0)).setCell (p := ⟨O, 0, none⟩) (Nat.le_trans h.d0 h.no.2.2.2) _
  · rw [World.size_setCell]; have := h.d1; omega
  · intro b cs t hb ht hbO
    exact BxO.other (hb.grown h.r ht hg) hbO _ _
  · exact hbel.setCell (p := ⟨O, 0, none⟩) h.no.2.2.2 _
/-- a span more: a clock at an instant, unless it is the last one's. -/
def addQ (l : List Spn) (t : Int) (ck : Clk) : List Spn := match l.getLast? with
  | some p => if p.ck = ck then l else l ++ [⟨t, ck⟩]
  | none => [⟨t, ck⟩]
theorem addP_q (C : Int → Clk) (l : List Spn) (t : Int) : addP C l t = addQ l t (C t) := rfl
theorem addQ_len (l : List Spn) (t : Int) (ck : Clk) : (addQ l t ck).length ≤ l.length + 1 := by
  unfold addQ
  split
  · split
    · omega
    · simp
  · simp
theorem spn_of_own {w : World} {D co : Nat} {ao : Option Addr} {l : List Spn} (h : w.ownsRow D 39 4 (.slice ao l.length co) l.length (l.flatMap encQ)) (k : Nat) (hk : k < l.length) :
    ∃ b, ao = some ⟨b, 0, none⟩ ∧ b < w.heap.size ∧ w.cell? ⟨b, k * 4, none⟩ = some (.int .i64 l[k].fr) ∧ w.cell? ⟨b, k * 4 + 1, none⟩ = some (.int .i64 l[k].ck.off) ∧ w.cell? ⟨b, k * 4 + 2, none⟩ = some (.bool l[k].ck.sav) ∧ w.cell? ⟨b, k * 4 + 3, none⟩ = some (.string l[k].ck.nm) := by
  rcases h.2 with ⟨e, h0⟩ | ⟨g, cap, cur, e, hb, hh, hc, hm, hs', ht⟩
  · omega
  · simp only [Value.slice.injEq] at e
    obtain ⟨rfl, -, rfl⟩ := e
    have f : ∀ j, j < 4 → w.cell? ⟨g, k * 4 + j, none⟩ = (encQ l[k])[j]? := fun j hj => by
      rw [h.cellAt _ (by omega)]
      exact flat_at (sz := 4) (enc := encQ) (fun _ => rfl) l k j hk hj
    exact ⟨g, rfl, (h.lt g rfl).2, f 0 (by decide), f 1 (by decide), f 2 (by decide), f 3 (by decide)⟩
set_option maxHeartbeats 4000000 in
set_option maxRecDepth 100000 in
theorem add_any (s : Src) (t : Int) (w0 w : World) (S E C O D : Nat) (vr vz vl vT vo : Value) (x : Ero) (T : List Trn) (l : List Spn) (h : AdB w0 w S E C O D vr vz vl vT vo x T l) (hs : SrcAt w0 vr vz vl s)
    (hc : COk x (stL s.rules x T t).1 (stL s.rules x T t).2) (hM : MxL w) (hl : l.length ≤ 1000000) :
    Calls Tryz.prog 65 #[.int .i64 t, .pointer (some ⟨S, 0, none⟩), .pointer (some ⟨E, 0, none⟩), .pointer (some ⟨C, 0, none⟩), .pointer (some ⟨O, 0, none⟩)] w
      fun e w' => e = .returned (.tuple #[]) ∧ ∃ vo', AdB w0 w' S E C O D vr vz vl vT vo' x T (addQ l t (clkE x (stL s.rules x T t))) ∧ KpS O w w' ∧ Below D w w' := by
  have HA := Lib.hid h
  have HST := Lib.hid (state_any s x t vr vz vl vT T w (hs.mono h.b) h.t)
  have HCL := Lib.hid (fun wx (hb : Below w.heap.size w wx) => clock_any x (stL s.rules x T t).1 (stL s.rules x T t).2 wx hc (hM.below hb))
  generalize stL s.rules x T t = P at *
  obtain ⟨P1, P2⟩ := P
  dsimp only at HST HCL
  obtain ⟨ck, hck⟩ : ∃ ck, clkE x (P1, P2) = ck := ⟨_, rfl⟩
  rw [hck] at HCL ⊢
  obtain ⟨ko, ks, kn⟩ := ck
  dsimp only at HCL
  obtain ⟨av, cv, rfl⟩ := own_shape h.r
  obtain ⟨aT, cT, rfl, -⟩ := h.t.shape
  clear h hs hc hM hck
  have s0 : w.cell? ⟨S, 0, none⟩ = some vr := HA.out.s.cell 0
  have s1 : w.cell? ⟨S, 1, none⟩ = some vz := HA.out.s.cell 1
  have s2 : w.cell? ⟨S, 2, none⟩ = some vl := HA.out.s.cell 2
  obtain ⟨e0, e1, e2, e3, e4, e5, e6, e7, e8, e9, e10, e11, -, -, -, -, -, -, -, -, -, -, -, -, -⟩ := HA.out.e.twelve
  have c0 : w.cell? ⟨C, 0, none⟩ = some (.slice aT T.length cT) := HA.out.c.cell 0
  go_enter Tryz.func65, Tryz.ntmps65
  go_wp2_with fail
  refine HST.out.mono ?_; rintro e w1 ⟨rfl, hb1⟩
  have A1 := Lib.hid (HA.out.next hb1)
  have HB1 := Lib.hid hb1
  clear hb1 s0 s1 s2 e0 e1 e2 e3 e4 e5 e6 e7 e8 e9 e10 e11 c0
  obtain ⟨e0, e1, e2, e3, e4, e5, e6, e7, e8, e9, e10, e11, -, -, -, -, -, -, -, -, -, -, -, -, -⟩ := A1.out.e.twelve
  go_wp2_with fail
  refine (HCL.out _ HB1.out).mono ?_; rintro e w2 ⟨rfl, hb2⟩
  have A2 := Lib.hid (A1.out.next hb2)
  have HB2 := Lib.hid (HB1.out.trans (hb2.mono HB1.out.size))
  clear hb2 e0 e1 e2 e3 e4 e5 e6 e7 e8 e9 e10 e11 HCL HST
  obtain ⟨W3, hW3⟩ : ∃ W3, W3 = w2.alloc (.cells #[.int .i64 ko, .bool ks, .string kn] 37) := ⟨_, rfl⟩
  have A3 : Hid (AdB w0 W3 S E C O D vr vz vl (.slice aT T.length cT) (.slice av l.length cv) x T l) := by show AdB _ _ _ _ _ _ _ _ _ _ _ _ _ _ _; rw [hW3]; exact A2.out.next ((Below.refl _ _).alloc (Nat.le_refl _) _)
  have HB3 : Hid (Below w.heap.size w W3) := by show Below _ _ _; rw [hW3]; exact HB2.out.alloc HB2.out.size _
  have X3 : Hid (BxO W3 w2.heap.size #[.int .i64 ko, .bool ks, .string kn] 37) := by show BxO _ _ _ _; rw [hW3]; exact BxO.new _ _ _
  have HW3 := Lib.hid hW3
  clear hW3
  go_upto_region 2 with fail
  rw [← HW3.out]
  clear HW3 A1 A2 HB1 HB2
  have o0 : W3.cell? ⟨O, 0, none⟩ = some (.slice av l.length cv) := A3.out.o.cell 0
  have of : W3.frozen? ⟨O, 0, none⟩ = false := A3.out.o.frozen 0
  have oz : O < W3.heap.size := A3.out.o.lt
  have k0 : W3.cell? ⟨w2.heap.size, 0, none⟩ = some (.int .i64 ko) := X3.out.cell 0
  have k1 : W3.cell? ⟨w2.heap.size, 1, none⟩ = some (.bool ks) := X3.out.cell 1
  have k2 : W3.cell? ⟨w2.heap.size, 2, none⟩ = some (.string kn) := X3.out.cell 2
  have kz : w2.heap.size < W3.heap.size := X3.out.lt
  obtain ⟨i0, hi, hz0, hz1, hz2⟩ := info_parts info_spn
  cases hq : l.getLast? with
  | none =>
    have hl0 : l = [] := List.getLast?_eq_none_iff.1 hq
    have HQ : Hid (addQ l t ⟨ko, ks, kn⟩ = l ++ [⟨t, ⟨ko, ks, kn⟩⟩]) := by show _ = _; rw [hl0]; rfl
    have hn0 : ((l.length : Int) == 0) = true := by rw [hl0]; rfl
    clear hq hl0
    go_wp2_with fail
    go_quiet (fail)
    go_upto_region 4 with fail
    obtain ⟨W4, hW4⟩ : ∃ W4, W3.drewN nq = W4 := ⟨_, rfl⟩
    rw [hW4]
    have HB4 : Hid (Below W3.heap.size W3 W4) := by show Below _ _ _; rw [← hW4]; exact below_draws (Below.refl _ _) nq
    clear hW4 o0 of oz k0 k1 k2 kz
    have A4 := Lib.hid (A3.out.next HB4.out)
    have X4 : Hid (BxO W4 w2.heap.size #[.int .i64 ko, .bool ks, .string kn] 37) := (HB4.out.block _ X3.out.lt).trans X3.out
    have o0 : W4.cell? ⟨O, 0, none⟩ = some (.slice av l.length cv) := A4.out.o.cell 0
    have of : W4.frozen? ⟨O, 0, none⟩ = false := A4.out.o.frozen 0
    have oz : O < W4.heap.size := A4.out.o.lt
    have k0 : W4.cell? ⟨w2.heap.size, 0, none⟩ = some (.int .i64 ko) := X4.out.cell 0
    have k1 : W4.cell? ⟨w2.heap.size, 1, none⟩ = some (.bool ks) := X4.out.cell 1
    have k2 : W4.cell? ⟨w2.heap.size, 2, none⟩ = some (.string kn) := X4.out.cell 2
    have kz : w2.heap.size < W4.heap.size := X4.out.lt
    go_wp2_with (at_builtin; refine wpList_append_own_at _ rfl (.tmp 36) (.tmp 40) 31 rfl D 39 i0 (.agg #[.int .i64 0, .int .i64 0, .bool false, .string ⟨#[]⟩]) 4 40 Tryz.underlying31 hi hz0 hz1 hz2 rfl (by decide) (.slice av l.length cv) l.length (l.flatMap encQ) rfl (A4.out.r.alloc _) ⟨W4.heap.size, 0, none⟩ 1 1 (encQ ⟨t, ⟨ko, ks, kn⟩⟩) rfl rfl (cells_at _ _ _ _ _ rfl rfl) (encQ_one _) (by unfold maxLen; omega) (by omega) (by rw [size_alloc]; have := A4.out.d1; omega) ?_; intro v' w5 hown hgrow _ hfr; have P4 := Lib.hid (A4.out.put (y := ⟨t, ⟨ko, ks, kn⟩⟩) hown hgrow hfr); obtain ⟨a5, c5, rfl⟩ := own_shape hown; have H5 := Lib.hid (BxO.grown A4.out.o A4.out.r (by decide) hgrow); have o5 : w5.cell? ⟨O, 0, none⟩ = some (.slice av l.length cv) := H5.out.cell 0; have f5 : w5.frozen? ⟨O, 0, none⟩ = false := H5.out.frozen 0; have z5 : O < w5.heap.size := H5.out.lt; clear hown hgrow hfr o0 of oz k0 k1 k2 kz)
    go_end0
    exact ⟨rfl, _, by rw [HQ.out]; exact P4.out.1, (KpS.of_below HB3.out).trans ((KpS.of_below HB4.out).trans P4.out.2.1), HB3.out.mono HA.out.d1 |>.trans ((HB4.out.mono A3.out.d1).trans P4.out.2.2)⟩
  | some p =>
    obtain ⟨l', hl'⟩ := List.getLast?_eq_some_iff.1 hq
    obtain ⟨m, hm⟩ : ∃ m, l.length = m + 1 := ⟨l'.length, by rw [hl']; simp⟩
    have hlm : l[m]'(by omega) = p := by
      have : l'.length = m := by rw [hl'] at hm; simpa using hm
      subst this
      simp [hl']
    obtain ⟨bv, rfl, hbv, -, p1, p2, p3⟩ := spn_of_own A3.out.r m (by omega)
    rw [hlm] at p1 p2 p3
    have hmi : (m : Int) < (l.length : Int) := by omega
    have hn0 : ((l.length : Int) == 0) = false := by rw [beq_eq_false_iff_ne]; omega
    have tw : IntKind.i64.wrap ((l.length : Int) - 1) = (m : Int) := by rw [IntWalk.i64_in _ (by omega)]; omega
    have HQ0 : Hid (addQ l t ⟨ko, ks, kn⟩ = if p.ck = ⟨ko, ks, kn⟩ then l else l ++ [⟨t, ⟨ko, ks, kn⟩⟩]) := by show _ = _; unfold addQ; rw [hq]
    clear hq hl' hlm hm
    obtain ⟨pf, ⟨po, ps, pn⟩⟩ := p
    dsimp only at p1 p2 p3
    by_cases he : (⟨po, ps, pn⟩ : Clk) = ⟨ko, ks, kn⟩
    · have HQ : Hid (addQ l t ⟨ko, ks, kn⟩ = l) := by show _ = _; rw [HQ0.out]; exact if_pos he
      simp only [Clk.mk.injEq] at he
      obtain ⟨rfl, rfl, rfl⟩ := he
      clear HQ0
      go_wp2_with fail
      go_quiet (fail)
      go_wp2
      go_end0
      exact ⟨rfl, _, by rw [HQ.out]; exact A3.out.next (below_draws (Below.refl _ _) nq), (KpS.of_below HB3.out).trans (KpS.of_below (below_draws (Below.refl _ _) nq)), below_draws (HB3.out.mono HA.out.d1) nq⟩
    · have HQ : Hid (addQ l t ⟨ko, ks, kn⟩ = l ++ [⟨t, ⟨ko, ks, kn⟩⟩]) := by show _ = _; rw [HQ0.out]; exact if_neg he
      have hb : (po == ko) = false ∨ ((po == ko) = true ∧ (ps == ks) = false) ∨ ((po == ko) = true ∧ (ps == ks) = true ∧ (pn.toList == kn.toList) = false) := by
        by_cases h1 : po = ko
        · right
          by_cases h2 : ps = ks
          · right
            refine ⟨by simp [h1], by simp [h2], ?_⟩
            rw [streq, decide_eq_false_iff_not]
            intro h3
            exact he (by rw [h1, h2, h3])
          · left
            exact ⟨by simp [h1], beq_eq_false_iff_ne.2 h2⟩
        · left
          exact beq_eq_false_iff_ne.2 h1
      clear he HQ0
      rcases hb with h1 | ⟨h1, h2⟩ | ⟨h1, h2, h3⟩
      all_goals
        go_wp2_with fail
        go_quiet (fail)
        clear p1 p2 p3
        go_upto_region 4 with fail
        obtain ⟨W4, hW4⟩ : ∃ W4, W3.drewN nq = W4 := ⟨_, rfl⟩
        rw [hW4]
        have HB4 : Hid (Below W3.heap.size W3 W4) := by show Below _ _ _; rw [← hW4]; exact below_draws (Below.refl _ _) nq
        clear hW4 o0 of oz k0 k1 k2 kz
        have A4 := Lib.hid (A3.out.next HB4.out)
        have X4 : Hid (BxO W4 w2.heap.size #[.int .i64 ko, .bool ks, .string kn] 37) := (HB4.out.block _ X3.out.lt).trans X3.out
        have o0 : W4.cell? ⟨O, 0, none⟩ = some (.slice (some ⟨bv, 0, none⟩) l.length cv) := A4.out.o.cell 0
        have of : W4.frozen? ⟨O, 0, none⟩ = false := A4.out.o.frozen 0
        have oz : O < W4.heap.size := A4.out.o.lt
        have k0 : W4.cell? ⟨w2.heap.size, 0, none⟩ = some (.int .i64 ko) := X4.out.cell 0
        have k1 : W4.cell? ⟨w2.heap.size, 1, none⟩ = some (.bool ks) := X4.out.cell 1
        have k2 : W4.cell? ⟨w2.heap.size, 2, none⟩ = some (.string kn) := X4.out.cell 2
        have kz : w2.heap.size < W4.heap.size := X4.out.lt
        go_wp2_with (at_builtin; refine wpList_append_own_at _ rfl (.tmp 36) (.tmp 40) 31 rfl D 39 i0 (.agg #[.int .i64 0, .int .i64 0, .bool false, .string ⟨#[]⟩]) 4 40 Tryz.underlying31 hi hz0 hz1 hz2 rfl (by decide) (.slice (some ⟨bv, 0, none⟩) l.length cv) l.length (l.flatMap encQ) rfl (A4.out.r.alloc _) ⟨W4.heap.size, 0, none⟩ 1 1 (encQ ⟨t, ⟨ko, ks, kn⟩⟩) rfl rfl (cells_at _ _ _ _ _ rfl rfl) (encQ_one _) (by unfold maxLen; omega) (by omega) (by rw [size_alloc]; have := A4.out.d1; omega) ?_; intro v' w5 hown hgrow _ hfr; have P4 := Lib.hid (A4.out.put (y := ⟨t, ⟨ko, ks, kn⟩⟩) hown hgrow hfr); obtain ⟨a5, c5, rfl⟩ := own_shape hown; have H5 := Lib.hid (BxO.grown A4.out.o A4.out.r (by decide) hgrow); have o5 : w5.cell? ⟨O, 0, none⟩ = some (.slice (some ⟨bv, 0, none⟩) l.length cv) := H5.out.cell 0; have f5 : w5.frozen? ⟨O, 0, none⟩ = false := H5.out.frozen 0; have z5 : O < w5.heap.size := H5.out.lt; clear hown hgrow hfr o0 of oz k0 k1 k2 kz)
        go_end0
        exact ⟨rfl, _, by rw [HQ.out]; exact P4.out.1, (KpS.of_below HB3.out).trans ((KpS.of_below HB4.out).trans P4.out.2.1), HB3.out.mono HA.out.d1 |>.trans ((HB4.out.mono A3.out.d1).trans P4.out.2.2)⟩
end Go.Proofs.YtbikdlcjbigafaaGreatDoor
