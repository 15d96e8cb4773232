/-
  What is wrong with an era: zones.checkEra (written by eragen.py). What is wrong with an era: sundialref.eraFault (written by eragen2.py).
-/
import Derived.Test.YtbikdlcjbigafaaGreatDoorJZonE0
namespace Go.Proofs.YtbikdlcjbigafaaGreatDoor
set_option linter.unusedVariables false
set_option linter.unusedSimpArgs false
open Go.ChangeShapes Go.WideShapes Go.ChangeAt Go.RowKit Civ

/-- the boxes of a source and of an era, in a later world. -/
def ZBx (w wx : World) (vr vz vl : Value) (x : Ero) : Prop := (wx.cell? ⟨w.heap.size, 0, none⟩ = some vr ∧ wx.cell? ⟨w.heap.size, 1, none⟩ = some vz ∧ wx.cell? ⟨w.heap.size, 2, none⟩ = some vl) ∧ EroAt wx (w.heap.size + 1) 0 x ∧ Below w.heap.size w wx ∧ w.heap.size + 2 ≤ wx.heap.size
theorem ZBx.new (w : World) (vr vz vl : Value) (x : Ero) : ZBx w ((w.alloc (.cells #[vr, vz, vl] 28)).alloc (.cells #[.int .i64 x.off, .string x.rl, .int .i64 x.sv, .string x.fm, .bool x.en, .int .i64 x.yr, .int .i64 x.un.mo, .int .i64 x.un.k, .int .i64 x.un.a, .int .i64 x.un.n, .int .i64 x.un.t, .int .i64 x.un.c] 68)) vr vz vl x := by
  have h1 := size_alloc w (.cells #[vr, vz, vl] 28)
  refine ⟨⟨?_, ?_, ?_⟩, ?_, ((Below.refl _ _).alloc (Nat.le_refl _) _).alloc (by simp) _, by rw [size_alloc, h1]; exact Nat.le_refl _⟩
  · exact (World.cell?_alloc_past _ _ _ (by rw [h1]; exact Nat.lt_succ_self _)).trans ((World.cell?_alloc_at (w := w) _ _ w.heap.size 0 rfl).trans rfl)
  · exact (World.cell?_alloc_past _ _ _ (by rw [h1]; exact Nat.lt_succ_self _)).trans ((World.cell?_alloc_at (w := w) _ _ w.heap.size 1 rfl).trans rfl)
  · exact (World.cell?_alloc_past _ _ _ (by rw [h1]; exact Nat.lt_succ_self _)).trans ((World.cell?_alloc_at (w := w) _ _ w.heap.size 2 rfl).trans rfl)
  · have := EroAt.new (w.alloc (.cells #[vr, vz, vl] 28)) x 68
    rw [h1] at this
    exact this
theorem ZBx.next {w wx w' : World} {vr vz vl : Value} {x : Ero} (h : ZBx w wx vr vz vl x) (hb : Below wx.heap.size wx w') : ZBx w w' vr vz vl x := by
  obtain ⟨⟨h1, h2, h3⟩, h4, h5, h6⟩ := h
  exact ⟨⟨(hb.cell (p := ⟨_, _, none⟩) (by show w.heap.size < _; omega)).trans h1, (hb.cell (p := ⟨_, _, none⟩) (by show w.heap.size < _; omega)).trans h2, (hb.cell (p := ⟨_, _, none⟩) (by show w.heap.size < _; omega)).trans h3⟩, h4.below hb (by omega), h5.trans (hb.mono (by omega)), Nat.le_trans h6 hb.size⟩
theorem ZBx.src {w wx : World} {vr vz vl : Value} {x : Ero} {s : Src} (h : ZBx w wx vr vz vl x) (hs : SrcAt w vr vz vl s) : SrcAt wx vr vz vl s := hs.mono h.2.2.1
/-- what the walk takes: the cells of the era's box. -/
theorem ZBx.era {w wx : World} {vr vz vl : Value} {x : Ero} (h : ZBx w wx vr vz vl x) : wx.cell? ⟨w.heap.size + 1, 0, none⟩ = some (.int .i64 x.off) ∧ wx.cell? ⟨w.heap.size + 1, 1, none⟩ = some (.string x.rl) ∧ wx.cell? ⟨w.heap.size + 1, 2, none⟩ = some (.int .i64 x.sv) ∧ wx.cell? ⟨w.heap.size + 1, 3, none⟩ = some (.string x.fm) ∧ wx.cell? ⟨w.heap.size + 1, 4, none⟩ = some (.bool x.en) ∧ wx.cell? ⟨w.heap.size + 1, 5, none⟩ = some (.int .i64 x.yr) ∧ wx.cell? ⟨w.heap.size + 1, 6, none⟩ = some (.int .i64 x.un.mo) ∧ wx.cell? ⟨w.heap.size + 1, 7, none⟩ = some (.int .i64 x.un.k) ∧ wx.cell? ⟨w.heap.size + 1, 8, none⟩ = some (.int .i64 x.un.a) ∧ wx.cell? ⟨w.heap.size + 1, 9, none⟩ = some (.int .i64 x.un.n) ∧ wx.cell? ⟨w.heap.size + 1, 10, none⟩ = some (.int .i64 x.un.t) ∧ wx.cell? ⟨w.heap.size + 1, 11, none⟩ = some (.int .i64 x.un.c) := by
  have := h.2.1
  unfold EroAt at this
  simpa only [Nat.zero_add] using this
/-- rules' name: none, or one, and nothing that is always saved. -/
def RlOk (x : Ero) : Prop := x.rl = ByteArray.empty ∨ (x.rl ≠ ByteArray.empty ∧ nameS x.rl = true ∧ x.sv = 0)
theorem eroF_yes {x : Ero} {last : Bool} (h : eroF x last = true) : fmtL x.fm.data.toList = false ∨ (fmtL x.fm.data.toList = true ∧ x.rl ≠ ByteArray.empty ∧ nameS x.rl = false) ∨ (fmtL x.fm.data.toList = true ∧ x.rl ≠ ByteArray.empty ∧ nameS x.rl = true ∧ x.sv ≠ 0) ∨
    (fmtL x.fm.data.toList = true ∧ RlOk x ∧ x.en = last) ∨ (fmtL x.fm.data.toList = true ∧ RlOk x ∧ x.en = false ∧ last = true ∧ x.yr ≠ 0) ∨ (fmtL x.fm.data.toList = true ∧ RlOk x ∧ x.en = false ∧ last = true ∧ x.yr = 0 ∧ mom0 x.un = false) := by
  unfold eroF at h
  unfold RlOk
  rcases hf : fmtL x.fm.data.toList with _ | _
  · exact .inl rfl
  · right
    rw [hf] at h
    by_cases hr : x.rl = ByteArray.empty
    · by_cases he : x.en = last
      · exact .inr (.inr (.inl ⟨rfl, .inl hr, he⟩))
      · rcases hl : last with _ | _
        · rcases hx : x.en with _ | _ <;> simp_all
        · have hx : x.en = false := by rcases hx : x.en with _ | _; rfl; simp_all
          by_cases hy : x.yr = 0
          · rcases hm : mom0 x.un with _ | _
            · exact .inr (.inr (.inr (.inr ⟨rfl, .inl hr, hx, rfl, hy, rfl⟩)))
            · simp_all
          · exact .inr (.inr (.inr (.inl ⟨rfl, .inl hr, hx, rfl, hy⟩)))
    · rcases hn : nameS x.rl with _ | _
      · exact .inl ⟨rfl, hr, rfl⟩
      · by_cases hs : x.sv = 0
        · by_cases he : x.en = last
          · exact .inr (.inr (.inl ⟨rfl, .inr ⟨hr, rfl, hs⟩, he⟩))
          · rcases hl : last with _ | _
            · rcases hx : x.en with _ | _ <;> simp_all
            · have hx : x.en = false := by rcases hx : x.en with _ | _; rfl; simp_all
              by_cases hy : x.yr = 0
              · rcases hm : mom0 x.un with _ | _
                · exact .inr (.inr (.inr (.inr ⟨rfl, .inr ⟨hr, rfl, hs⟩, hx, rfl, hy, rfl⟩)))
                · simp_all
              · exact .inr (.inr (.inr (.inl ⟨rfl, .inr ⟨hr, rfl, hs⟩, hx, rfl, hy⟩)))
        · exact .inr (.inl ⟨rfl, hr, rfl, hs⟩)
theorem mom0_iff (m : Mom) : mom0 m = true ↔ m.mo = 0 ∧ m.k = 0 ∧ m.a = 0 ∧ m.n = 0 ∧ m.t = 0 ∧ m.c = 0 := by
  unfold mom0
  simp only [Bool.and_eq_true, decide_eq_true_iff, and_assoc]
theorem eroF_no {x : Ero} {last : Bool} (h : eroF x last = false) : fmtL x.fm.data.toList = true ∧ RlOk x ∧ x.en = (!last) ∧ (last = true → x.yr = 0 ∧ x.un.mo = 0 ∧ x.un.k = 0 ∧ x.un.a = 0 ∧ x.un.n = 0 ∧ x.un.t = 0 ∧ x.un.c = 0) := by
  unfold eroF at h
  unfold RlOk
  rw [← mom0_iff]
  rcases hf : fmtL x.fm.data.toList with _ | _ <;> rcases hl : last with _ | _ <;> rcases hx : x.en with _ | _ <;> by_cases hr : x.rl = ByteArray.empty <;> rcases hn : nameS x.rl with _ | _ <;> by_cases hs : x.sv = 0 <;> simp_all
theorem rl_ne {a : ByteArray} (h : a ≠ ByteArray.empty) : ¬ a.toList = [] ∧ a.toList.isEmpty = false := ((ba_cases a).resolve_left h).2

set_option maxHeartbeats 4000000 in
set_option maxRecDepth 100000 in
theorem checkEra_form (s : Src) (x : Ero) (last : Bool) (vr vz vl : Value) (w : World) (hs : SrcAt w vr vz vl s) (hx : E64 x) (hV : Tab w ∧ MxL w) (h : eroF x last = true) :
    Calls Tryz.prog 100 #[.agg #[vr, vz, vl], .agg #[.int .i64 x.off, .string x.rl, .int .i64 x.sv, .string x.fm, .bool x.en, .int .i64 x.yr, .int .i64 x.un.mo, .int .i64 x.un.k, .int .i64 x.un.a, .int .i64 x.un.n, .int .i64 x.un.t, .int .i64 x.un.c], .bool last] w fun e w' => e = .returned (.int .i64 4) ∧ Below w.heap.size w w' := by
  obtain ⟨-, hrl, -, hfm, -, -⟩ := hx
  have Z0 := Lib.hid (ZBx.new w vr vz vl x)
  have HF := Lib.hid (fun wx (hb : Below w.heap.size w wx) => format_lit x.fm wx hfm (hV.2.below hb))
  have HN := Lib.hid (fun wx => name_lit x.rl wx hrl)
  obtain ⟨W0, hW0⟩ : ∃ W0, W0 = (w.alloc (.cells #[vr, vz, vl] 28)).alloc (.cells #[.int .i64 x.off, .string x.rl, .int .i64 x.sv, .string x.fm, .bool x.en, .int .i64 x.yr, .int .i64 x.un.mo, .int .i64 x.un.k, .int .i64 x.un.a, .int .i64 x.un.n, .int .i64 x.un.t, .int .i64 x.un.c] 68) := ⟨_, rfl⟩
  rw [← hW0] at Z0
  have HW := Lib.hid hW0
  clear hW0 hrl hfm hs hV
  rcases eroF_yes h with q | ⟨q, q1, q2⟩ | ⟨q, q1, q2, q3⟩ | ⟨q, q1, q2⟩ | ⟨q, q1, q2, q3, q4⟩ | ⟨q, q1, q2, q3, q4, q5⟩
  · have Q := Lib.hid q
    clear h q
    go_enter Tryz.func100, Tryz.ntmps100
    go_wp2_with fail
    rw [← HW.out]
    refine (HF.out _ Z0.out.2.2.1).mono ?_; rintro e w1 ⟨rfl, hb1⟩
    rw [Q.out]
    have Z1 := Lib.hid (Z0.out.next hb1)
    clear hb1
    obtain ⟨g0, g1, g2⟩ := Z1.out.1
    obtain ⟨c0, c1, c2, c3, c4, c5, c6, c7, c8, c9, c10, c11⟩ := Z1.out.era
    go_wp2
    go_ret
    exact ⟨rfl, Z1.out.2.2.1⟩
  · have Q := Lib.hid q
    obtain ⟨e1, e2⟩ := rl_ne q1
    have Q2 := Lib.hid q2
    clear h q q1 q2
    go_enter Tryz.func100, Tryz.ntmps100
    go_wp2_with fail
    rw [← HW.out]
    refine (HF.out _ Z0.out.2.2.1).mono ?_; rintro e w1 ⟨rfl, hb1⟩
    rw [Q.out]
    have Z1 := Lib.hid (Z0.out.next hb1)
    clear hb1
    obtain ⟨g0, g1, g2⟩ := Z1.out.1
    obtain ⟨c0, c1, c2, c3, c4, c5, c6, c7, c8, c9, c10, c11⟩ := Z1.out.era
    go_wp2_with fail
    refine (HN.out _).mono ?_; rintro e w2 ⟨rfl, hb2⟩
    rw [Q2.out]
    have Z2 := Lib.hid (Z1.out.next hb2)
    clear hb2 g0 g1 g2 c0 c1 c2 c3 c4 c5 c6 c7 c8 c9 c10 c11
    obtain ⟨g0, g1, g2⟩ := Z2.out.1
    obtain ⟨c0, c1, c2, c3, c4, c5, c6, c7, c8, c9, c10, c11⟩ := Z2.out.era
    go_wp2
    go_ret
    exact ⟨rfl, Z2.out.2.2.1⟩
  · have Q := Lib.hid q
    obtain ⟨e1, e2⟩ := rl_ne q1
    have Q2 := Lib.hid q2
    have q3' : (x.sv != 0) = true := by rw [bne_iff_ne]; exact q3
    clear h q q1 q2
    go_enter Tryz.func100, Tryz.ntmps100
    go_wp2_with fail
    rw [← HW.out]
    refine (HF.out _ Z0.out.2.2.1).mono ?_; rintro e w1 ⟨rfl, hb1⟩
    rw [Q.out]
    have Z1 := Lib.hid (Z0.out.next hb1)
    clear hb1
    obtain ⟨g0, g1, g2⟩ := Z1.out.1
    obtain ⟨c0, c1, c2, c3, c4, c5, c6, c7, c8, c9, c10, c11⟩ := Z1.out.era
    go_wp2_with fail
    refine (HN.out _).mono ?_; rintro e w2 ⟨rfl, hb2⟩
    rw [Q2.out]
    have Z2 := Lib.hid (Z1.out.next hb2)
    clear hb2 g0 g1 g2 c0 c1 c2 c3 c4 c5 c6 c7 c8 c9 c10 c11
    obtain ⟨g0, g1, g2⟩ := Z2.out.1
    obtain ⟨c0, c1, c2, c3, c4, c5, c6, c7, c8, c9, c10, c11⟩ := Z2.out.era
    go_wp2
    go_ret
    exact ⟨rfl, Z2.out.2.2.1⟩
  · have Q := Lib.hid q
    have QE := Lib.hid q2
    clear h q q2
    rcases q1 with q1 | ⟨q1, Q2, q1s⟩
    · have r1 : x.rl.toList = [] := by rw [q1]; exact (toList_nil_iff_emptyBytes _).2 rfl
      have r2 : x.rl.toList.isEmpty = true := by rw [r1]; rfl
      clear q1
      go_enter Tryz.func100, Tryz.ntmps100
      go_wp2_with fail
      rw [← HW.out]
      refine (HF.out _ Z0.out.2.2.1).mono ?_; rintro e w1 ⟨rfl, hb1⟩
      rw [Q.out]
      have Z1 := Lib.hid (Z0.out.next hb1)
      clear hb1
      obtain ⟨g0, g1, g2⟩ := Z1.out.1
      obtain ⟨c0, c1, c2, c3, c4, c5, c6, c7, c8, c9, c10, c11⟩ := Z1.out.era
      cases last with
      | true =>
        rw [QE.out] at c4
        go_wp2
        go_ret
        exact ⟨rfl, Z1.out.2.2.1⟩
      | false =>
        rw [QE.out] at c4
        go_wp2
        go_ret
        exact ⟨rfl, Z1.out.2.2.1⟩
    · obtain ⟨e1, e2⟩ := rl_ne q1
      have Q2 := Lib.hid Q2
      have r3 : (x.sv != 0) = false := by rw [bne_eq_false_iff_eq]; exact q1s
      clear q1 q1s
      go_enter Tryz.func100, Tryz.ntmps100
      go_wp2_with fail
      rw [← HW.out]
      refine (HF.out _ Z0.out.2.2.1).mono ?_; rintro e w1 ⟨rfl, hb1⟩
      rw [Q.out]
      have Z1 := Lib.hid (Z0.out.next hb1)
      clear hb1
      obtain ⟨g0, g1, g2⟩ := Z1.out.1
      obtain ⟨c0, c1, c2, c3, c4, c5, c6, c7, c8, c9, c10, c11⟩ := Z1.out.era
      go_wp2_with fail
      refine (HN.out _).mono ?_; rintro e w2 ⟨rfl, hb2⟩
      rw [Q2.out]
      have Z2 := Lib.hid (Z1.out.next hb2)
      clear hb2 g0 g1 g2 c0 c1 c2 c3 c4 c5 c6 c7 c8 c9 c10 c11
      obtain ⟨g0, g1, g2⟩ := Z2.out.1
      obtain ⟨c0, c1, c2, c3, c4, c5, c6, c7, c8, c9, c10, c11⟩ := Z2.out.era
      cases last with
      | true =>
        rw [QE.out] at c4
        go_wp2
        go_ret
        exact ⟨rfl, Z2.out.2.2.1⟩
      | false =>
        rw [QE.out] at c4
        go_wp2
        go_ret
        exact ⟨rfl, Z2.out.2.2.1⟩
  · have Q := Lib.hid q
    have QE := Lib.hid q2
    clear q2
    subst q3
    have q4' : (x.yr != 0) = true := by rw [bne_iff_ne]; exact q4
    clear h q q4
    rcases q1 with q1 | ⟨q1, Q2, q1s⟩
    · have r1 : x.rl.toList = [] := by rw [q1]; exact (toList_nil_iff_emptyBytes _).2 rfl
      have r2 : x.rl.toList.isEmpty = true := by rw [r1]; rfl
      clear q1
      go_enter Tryz.func100, Tryz.ntmps100
      go_wp2_with fail
      rw [← HW.out]
      refine (HF.out _ Z0.out.2.2.1).mono ?_; rintro e w1 ⟨rfl, hb1⟩
      rw [Q.out]
      have Z1 := Lib.hid (Z0.out.next hb1)
      clear hb1
      obtain ⟨g0, g1, g2⟩ := Z1.out.1
      obtain ⟨c0, c1, c2, c3, c4, c5, c6, c7, c8, c9, c10, c11⟩ := Z1.out.era
      rw [QE.out] at c4
      go_wp2
      go_ret
      exact ⟨rfl, Z1.out.2.2.1⟩
    · obtain ⟨e1, e2⟩ := rl_ne q1
      have Q2 := Lib.hid Q2
      have r3 : (x.sv != 0) = false := by rw [bne_eq_false_iff_eq]; exact q1s
      clear q1 q1s
      go_enter Tryz.func100, Tryz.ntmps100
      go_wp2_with fail
      rw [← HW.out]
      refine (HF.out _ Z0.out.2.2.1).mono ?_; rintro e w1 ⟨rfl, hb1⟩
      rw [Q.out]
      have Z1 := Lib.hid (Z0.out.next hb1)
      clear hb1
      obtain ⟨g0, g1, g2⟩ := Z1.out.1
      obtain ⟨c0, c1, c2, c3, c4, c5, c6, c7, c8, c9, c10, c11⟩ := Z1.out.era
      go_wp2_with fail
      refine (HN.out _).mono ?_; rintro e w2 ⟨rfl, hb2⟩
      rw [Q2.out]
      have Z2 := Lib.hid (Z1.out.next hb2)
      clear hb2 g0 g1 g2 c0 c1 c2 c3 c4 c5 c6 c7 c8 c9 c10 c11
      obtain ⟨g0, g1, g2⟩ := Z2.out.1
      obtain ⟨c0, c1, c2, c3, c4, c5, c6, c7, c8, c9, c10, c11⟩ := Z2.out.era
      rw [QE.out] at c4
      go_wp2
      go_ret
      exact ⟨rfl, Z2.out.2.2.1⟩
  · have Q := Lib.hid q
    have QE := Lib.hid q2
    clear q2
    subst q3
    have q4' : (x.yr != 0) = false := by rw [bne_eq_false_iff_eq]; exact q4
    have Q5 : Hid (¬ (x.un.mo = 0 ∧ x.un.k = 0 ∧ x.un.a = 0 ∧ x.un.n = 0 ∧ x.un.t = 0 ∧ x.un.c = 0)) := by
      show ¬ _
      rw [← mom0_iff, q5]
      decide
    clear h q q4 q5
    rcases q1 with q1 | ⟨q1, Q2, q1s⟩
    · have r1 : x.rl.toList = [] := by rw [q1]; exact (toList_nil_iff_emptyBytes _).2 rfl
      have r2 : x.rl.toList.isEmpty = true := by rw [r1]; rfl
      clear q1
      go_enter Tryz.func100, Tryz.ntmps100
      go_wp2_with fail
      rw [← HW.out]
      refine (HF.out _ Z0.out.2.2.1).mono ?_; rintro e w1 ⟨rfl, hb1⟩
      rw [Q.out]
      have Z1 := Lib.hid (Z0.out.next hb1)
      clear hb1
      obtain ⟨g0, g1, g2⟩ := Z1.out.1
      obtain ⟨c0, c1, c2, c3, c4, c5, c6, c7, c8, c9, c10, c11⟩ := Z1.out.era
      rw [QE.out] at c4
      rcases Decidable.em (x.un.mo = 0) with m1 | m1
      · rcases Decidable.em (x.un.k = 0) with m2 | m2
        · rcases Decidable.em (x.un.a = 0) with m3 | m3
          · rcases Decidable.em (x.un.n = 0) with m4 | m4
            · rcases Decidable.em (x.un.t = 0) with m5 | m5
              · have m6 : ¬ x.un.c = 0 := fun e => Q5.out ⟨m1, m2, m3, m4, m5, e⟩
                go_wp2
                go_ret
                exact ⟨rfl, Z1.out.2.2.1⟩
              · go_wp2
                go_ret
                exact ⟨rfl, Z1.out.2.2.1⟩
            · go_wp2
              go_ret
              exact ⟨rfl, Z1.out.2.2.1⟩
          · go_wp2
            go_ret
            exact ⟨rfl, Z1.out.2.2.1⟩
        · go_wp2
          go_ret
          exact ⟨rfl, Z1.out.2.2.1⟩
      · go_wp2
        go_ret
        exact ⟨rfl, Z1.out.2.2.1⟩
    · obtain ⟨e1, e2⟩ := rl_ne q1
      have Q2 := Lib.hid Q2
      have r3 : (x.sv != 0) = false := by rw [bne_eq_false_iff_eq]; exact q1s
      clear q1 q1s
      go_enter Tryz.func100, Tryz.ntmps100
      go_wp2_with fail
      rw [← HW.out]
      refine (HF.out _ Z0.out.2.2.1).mono ?_; rintro e w1 ⟨rfl, hb1⟩
      rw [Q.out]
      have Z1 := Lib.hid (Z0.out.next hb1)
      clear hb1
      obtain ⟨g0, g1, g2⟩ := Z1.out.1
      obtain ⟨c0, c1, c2, c3, c4, c5, c6, c7, c8, c9, c10, c11⟩ := Z1.out.era
      go_wp2_with fail
      refine (HN.out _).mono ?_; rintro e w2 ⟨rfl, hb2⟩
      rw [Q2.out]
      have Z2 := Lib.hid (Z1.out.next hb2)
      clear hb2 g0 g1 g2 c0 c1 c2 c3 c4 c5 c6 c7 c8 c9 c10 c11
      obtain ⟨g0, g1, g2⟩ := Z2.out.1
      obtain ⟨c0, c1, c2, c3, c4, c5, c6, c7, c8, c9, c10, c11⟩ := Z2.out.era
      rw [QE.out] at c4
      rcases Decidable.em (x.un.mo = 0) with m1 | m1
      · rcases Decidable.em (x.un.k = 0) with m2 | m2
        · rcases Decidable.em (x.un.a = 0) with m3 | m3
          · rcases Decidable.em (x.un.n = 0) with m4 | m4
            · rcases Decidable.em (x.un.t = 0) with m5 | m5
              · have m6 : ¬ x.un.c = 0 := fun e => Q5.out ⟨m1, m2, m3, m4, m5, e⟩
                go_wp2
                go_ret
                exact ⟨rfl, Z2.out.2.2.1⟩
              · go_wp2
                go_ret
                exact ⟨rfl, Z2.out.2.2.1⟩
            · go_wp2
              go_ret
              exact ⟨rfl, Z2.out.2.2.1⟩
          · go_wp2
            go_ret
            exact ⟨rfl, Z2.out.2.2.1⟩
        · go_wp2
          go_ret
          exact ⟨rfl, Z2.out.2.2.1⟩
      · go_wp2
        go_ret
        exact ⟨rfl, Z2.out.2.2.1⟩

def ErR (x : Ero) : Prop := x.off < -86400 ∨ 86400 < x.off ∨ x.sv < -86400 ∨ 86400 < x.sv
theorem eroE_2 {rules : List Rul} {x : Ero} {last : Bool} (h : eroF x last = false) (h2 : ErR x) : eroE rules x last = 2 := by
  unfold ErR at h2; unfold eroE; rw [h, if_neg (by decide), if_pos h2]
theorem eroE_6 {rules : List Rul} {x : Ero} {last : Bool} (h : eroF x last = false) (h2 : ¬ ErR x) (h3 : x.rl ≠ ByteArray.empty) (h4 : namedB rules x.rl = false) : eroE rules x last = 6 := by
  unfold ErR at h2; unfold eroE; rw [h, if_neg (by decide), if_neg h2, if_pos ⟨h3, h4⟩]
theorem eroE_0 {rules : List Rul} {x : Ero} (h : eroF x true = false) (h2 : ¬ ErR x) (h3 : x.rl = ByteArray.empty ∨ namedB rules x.rl = true) : eroE rules x true = 0 := by
  unfold ErR at h2; unfold eroE; rw [h, if_neg (by decide), if_neg h2, if_neg (by rintro ⟨a, b⟩; rcases h3 with c | c; exact a c; rw [b] at c; cases c), if_pos rfl]
theorem eroE_y {rules : List Rul} {x : Ero} (h : eroF x false = false) (h2 : ¬ ErR x) (h3 : x.rl = ByteArray.empty ∨ namedB rules x.rl = true) (h4 : x.yr < 1900 ∨ 2099 < x.yr) : eroE rules x false = 2 := by
  unfold ErR at h2; unfold eroE; rw [h, if_neg (by decide), if_neg h2, if_neg (by rintro ⟨a, b⟩; rcases h3 with c | c; exact a c; rw [b] at c; cases c), if_neg (by decide), if_pos h4]
theorem eroE_m {rules : List Rul} {x : Ero} (h : eroF x false = false) (h2 : ¬ ErR x) (h3 : x.rl = ByteArray.empty ∨ namedB rules x.rl = true) (h4 : ¬ (x.yr < 1900 ∨ 2099 < x.yr)) : eroE rules x false = if chkM x.un.mo x.un.k x.un.a x.un.n x.un.t x.un.c ≠ 0 then chkM x.un.mo x.un.k x.un.a x.un.n x.un.t x.un.c else fndE x.yr x.un.mo x.un.k x.un.a x.un.n := by
  unfold ErR at h2; unfold eroE; rw [h, if_neg (by decide), if_neg h2, if_neg (by rintro ⟨a, b⟩; rcases h3 with c | c; exact a c; rw [b] at c; cases c), if_neg (by decide), if_neg h4]
theorem find_e (x : Ero) (wx : World) (hT : Tab wx) : Calls Tryz.prog 69 #[.int .i64 x.yr, .int .i64 x.un.mo, .agg #[.int .i64 x.un.k, .int .i64 x.un.a, .int .i64 x.un.n]] wx fun e w' => (∃ v, e = .returned (.tuple #[.int .i64 v, .int .i64 (fndE x.yr x.un.mo x.un.k x.un.a x.un.n)])) ∧ Below wx.heap.size wx w' := by
  by_cases h : fndE x.yr x.un.mo x.un.k x.un.a x.un.n = 0
  · refine (find_ok _ _ _ _ _ wx hT h).mono ?_
    rintro e w' ⟨rfl, hb⟩
    exact ⟨⟨_, by rw [h]⟩, hb⟩
  · refine (find_err _ _ _ _ _ wx hT h).mono ?_
    rintro e w' ⟨rfl, hb⟩
    exact ⟨⟨_, rfl⟩, hb⟩
set_option maxHeartbeats 4000000 in
set_option maxRecDepth 100000 in
theorem checkEra_good (s : Src) (x : Ero) (last : Bool) (vr vz vl : Value) (w : World) (hs : SrcAt w vr vz vl s) (hx : E64 x) (hV : Tab w ∧ MxL w) (h : eroF x last = false) :
    Calls Tryz.prog 100 #[.agg #[vr, vz, vl], .agg #[.int .i64 x.off, .string x.rl, .int .i64 x.sv, .string x.fm, .bool x.en, .int .i64 x.yr, .int .i64 x.un.mo, .int .i64 x.un.k, .int .i64 x.un.a, .int .i64 x.un.n, .int .i64 x.un.t, .int .i64 x.un.c], .bool last] w fun e w' => e = .returned (.int .i64 (eroE s.rules x last)) ∧ Below w.heap.size w w' := by
  obtain ⟨-, hrl, -, hfm, -, -⟩ := hx
  have Z0 := Lib.hid (ZBx.new w vr vz vl x)
  have HF := Lib.hid (fun wx (hb : Below w.heap.size w wx) => format_lit x.fm wx hfm (hV.2.below hb))
  have HN := Lib.hid (fun wx => name_lit x.rl wx hrl)
  have HD := Lib.hid (fun wx (hb : Below w.heap.size w wx) => named_any s vr vz vl x.rl wx (hs.mono hb))
  have HC := Lib.hid (fun wx => checkmoment_any x.un.mo x.un.k x.un.a x.un.n x.un.t x.un.c wx)
  have HG := Lib.hid (fun wx (hb : Below w.heap.size w wx) => find_e x wx (hV.1.below hb))
  obtain ⟨W0, hW0⟩ : ∃ W0, W0 = (w.alloc (.cells #[vr, vz, vl] 28)).alloc (.cells #[.int .i64 x.off, .string x.rl, .int .i64 x.sv, .string x.fm, .bool x.en, .int .i64 x.yr, .int .i64 x.un.mo, .int .i64 x.un.k, .int .i64 x.un.a, .int .i64 x.un.n, .int .i64 x.un.t, .int .i64 x.un.c] 68) := ⟨_, rfl⟩
  rw [← hW0] at Z0
  have HW := Lib.hid hW0
  have HE := Lib.hid h
  obtain ⟨q, q1, q2, q3⟩ := eroF_no h
  have Q := Lib.hid q
  have QE := Lib.hid q2
  have QL := Lib.hid q3
  clear hW0 hrl hfm hs hV h q q2 q3
  rcases q1 with q1 | ⟨q1, Q2, q1s⟩
  · have r1 : x.rl.toList = [] := by rw [q1]; exact (toList_nil_iff_emptyBytes _).2 rfl
    have r2 : x.rl.toList.isEmpty = true := by rw [r1]; rfl
    have HEM := Lib.hid q1
    clear q1
    go_enter Tryz.func100, Tryz.ntmps100
    go_wp2_with fail
    rw [← HW.out]
    refine (HF.out _ Z0.out.2.2.1).mono ?_; rintro e w1 ⟨rfl, hb1⟩
    rw [Q.out]
    have Z1 := Lib.hid (Z0.out.next hb1)
    clear hb1
    obtain ⟨g0, g1, g2⟩ := Z1.out.1
    obtain ⟨c0, c1, c2, c3, c4, c5, c6, c7, c8, c9, c10, c11⟩ := Z1.out.era
    cases last with
    | true =>
      obtain ⟨m0, m1, m2, m3, m4, m5, m6⟩ := QL.out rfl
      rw [QE.out] at c4
      rw [m0] at c5
      rw [m1] at c6
      rw [m2] at c7
      rw [m3] at c8
      rw [m4] at c9
      rw [m5] at c10
      rw [m6] at c11
      clear m0 m1 m2 m3 m4 m5 m6
      by_cases h2 : ErR x
      · have H2 := Lib.hid (eroE_2 (rules := s.rules) HE.out h2)
        unfold ErR at h2
        rcases (show x.off < -86400 ∨ (-86400 ≤ x.off ∧ 86400 < x.off) ∨ (-86400 ≤ x.off ∧ x.off ≤ 86400 ∧ x.sv < -86400) ∨ (-86400 ≤ x.off ∧ x.off ≤ 86400 ∧ -86400 ≤ x.sv ∧ 86400 < x.sv) by omega) with p1 | ⟨p1, p2⟩ | ⟨p1, p2, p3⟩ | ⟨p1, p2, p3, p4⟩
        all_goals
          clear h2
          go_wp2
          go_ret
          exact ⟨ret_int H2.out.symm, Z1.out.2.2.1⟩
      · obtain ⟨p1, p2, p3, p4⟩ : -86400 ≤ x.off ∧ x.off ≤ 86400 ∧ -86400 ≤ x.sv ∧ x.sv ≤ 86400 := by unfold ErR at h2; omega
        have HR := Lib.hid h2
        clear h2
        have H3 : Hid (x.rl = ByteArray.empty ∨ namedB s.rules x.rl = true) := .inl HEM.out
        have H0 := Lib.hid (eroE_0 HE.out HR.out H3.out)
        go_wp2
        go_ret
        exact ⟨ret_int H0.out.symm, Z1.out.2.2.1⟩
    | false =>
      rw [QE.out] at c4
      by_cases h2 : ErR x
      · have H2 := Lib.hid (eroE_2 (rules := s.rules) HE.out h2)
        unfold ErR at h2
        rcases (show x.off < -86400 ∨ (-86400 ≤ x.off ∧ 86400 < x.off) ∨ (-86400 ≤ x.off ∧ x.off ≤ 86400 ∧ x.sv < -86400) ∨ (-86400 ≤ x.off ∧ x.off ≤ 86400 ∧ -86400 ≤ x.sv ∧ 86400 < x.sv) by omega) with p1 | ⟨p1, p2⟩ | ⟨p1, p2, p3⟩ | ⟨p1, p2, p3, p4⟩
        all_goals
          clear h2
          go_wp2
          go_ret
          exact ⟨ret_int H2.out.symm, Z1.out.2.2.1⟩
      · obtain ⟨p1, p2, p3, p4⟩ : -86400 ≤ x.off ∧ x.off ≤ 86400 ∧ -86400 ≤ x.sv ∧ x.sv ≤ 86400 := by unfold ErR at h2; omega
        have HR := Lib.hid h2
        clear h2
        have H3 : Hid (x.rl = ByteArray.empty ∨ namedB s.rules x.rl = true) := .inl HEM.out
        by_cases hy : x.yr < 1900 ∨ 2099 < x.yr
        · have H4 := Lib.hid (eroE_y HE.out HR.out H3.out hy)
          rcases (show x.yr < 1900 ∨ (1900 ≤ x.yr ∧ 2099 < x.yr) by omega) with y1 | ⟨y1, y2⟩
          all_goals
            clear hy
            go_wp2
            go_ret
            exact ⟨ret_int H4.out.symm, Z1.out.2.2.1⟩
        · have H4 := Lib.hid (eroE_m HE.out HR.out H3.out hy)
          have y1 : 1900 ≤ x.yr := by omega
          have y2 : x.yr ≤ 2099 := by omega
          clear hy
          go_wp2_with fail
          refine (HC.out _).mono ?_; rintro e w3 ⟨rfl, hb⟩
          have Z2 := Lib.hid (Z1.out.next hb)
          clear hb g0 g1 g2 c0 c1 c2 c3 c4 c5 c6 c7 c8 c9 c10 c11
          obtain ⟨g0, g1, g2⟩ := Z2.out.1
          obtain ⟨c0, c1, c2, c3, c4, c5, c6, c7, c8, c9, c10, c11⟩ := Z2.out.era
          by_cases hm : chkM x.un.mo x.un.k x.un.a x.un.n x.un.t x.un.c = 0
          · have hm' : (chkM x.un.mo x.un.k x.un.a x.un.n x.un.t x.un.c != 0) = false := by rw [bne_eq_false_iff_eq]; exact hm
            have H5 : Hid (eroE s.rules x false = fndE x.yr x.un.mo x.un.k x.un.a x.un.n) := by show _ = _; rw [H4.out, if_neg (by rw [hm]; simp)]
            clear hm
            go_wp2_with fail
            refine (HG.out _ Z2.out.2.2.1).mono ?_; rintro e w4 ⟨⟨v, rfl⟩, hb⟩
            have Z3 := Lib.hid (Z2.out.next hb)
            clear hb g0 g1 g2 c0 c1 c2 c3 c4 c5 c6 c7 c8 c9 c10 c11
            obtain ⟨g0, g1, g2⟩ := Z3.out.1
            obtain ⟨c0, c1, c2, c3, c4, c5, c6, c7, c8, c9, c10, c11⟩ := Z3.out.era
            go_wp2
            go_ret
            exact ⟨ret_int H5.out.symm, Z3.out.2.2.1⟩
          · have hm' : (chkM x.un.mo x.un.k x.un.a x.un.n x.un.t x.un.c != 0) = true := by rw [bne_iff_ne]; exact hm
            have H5 : Hid (eroE s.rules x false = chkM x.un.mo x.un.k x.un.a x.un.n x.un.t x.un.c) := by show _ = _; rw [H4.out, if_pos hm]
            clear hm
            go_wp2
            go_ret
            exact ⟨ret_int H5.out.symm, Z2.out.2.2.1⟩
  · obtain ⟨e1, e2⟩ := rl_ne q1
    have HNE := Lib.hid q1
    have Q2 := Lib.hid Q2
    have r3 : (x.sv != 0) = false := by rw [bne_eq_false_iff_eq]; exact q1s
    clear q1 q1s
    go_enter Tryz.func100, Tryz.ntmps100
    go_wp2_with fail
    rw [← HW.out]
    refine (HF.out _ Z0.out.2.2.1).mono ?_; rintro e w1 ⟨rfl, hb1⟩
    rw [Q.out]
    have Z1 := Lib.hid (Z0.out.next hb1)
    clear hb1
    obtain ⟨g0, g1, g2⟩ := Z1.out.1
    obtain ⟨c0, c1, c2, c3, c4, c5, c6, c7, c8, c9, c10, c11⟩ := Z1.out.era
    go_wp2_with fail
    refine (HN.out _).mono ?_; rintro e w2 ⟨rfl, hb2⟩
    rw [Q2.out]
    have Z2 := Lib.hid (Z1.out.next hb2)
    clear hb2 g0 g1 g2 c0 c1 c2 c3 c4 c5 c6 c7 c8 c9 c10 c11
    obtain ⟨g0, g1, g2⟩ := Z2.out.1
    obtain ⟨c0, c1, c2, c3, c4, c5, c6, c7, c8, c9, c10, c11⟩ := Z2.out.era
    cases last with
    | true =>
      obtain ⟨m0, m1, m2, m3, m4, m5, m6⟩ := QL.out rfl
      rw [QE.out] at c4
      rw [m0] at c5
      rw [m1] at c6
      rw [m2] at c7
      rw [m3] at c8
      rw [m4] at c9
      rw [m5] at c10
      rw [m6] at c11
      clear m0 m1 m2 m3 m4 m5 m6
      by_cases h2 : ErR x
      · have H2 := Lib.hid (eroE_2 (rules := s.rules) HE.out h2)
        unfold ErR at h2
        rcases (show x.off < -86400 ∨ (-86400 ≤ x.off ∧ 86400 < x.off) ∨ (-86400 ≤ x.off ∧ x.off ≤ 86400 ∧ x.sv < -86400) ∨ (-86400 ≤ x.off ∧ x.off ≤ 86400 ∧ -86400 ≤ x.sv ∧ 86400 < x.sv) by omega) with p1 | ⟨p1, p2⟩ | ⟨p1, p2, p3⟩ | ⟨p1, p2, p3, p4⟩
        all_goals
          clear h2
          go_wp2
          go_ret
          exact ⟨ret_int H2.out.symm, Z2.out.2.2.1⟩
      · obtain ⟨p1, p2, p3, p4⟩ : -86400 ≤ x.off ∧ x.off ≤ 86400 ∧ -86400 ≤ x.sv ∧ x.sv ≤ 86400 := by unfold ErR at h2; omega
        have HR := Lib.hid h2
        clear h2
        go_wp2_with fail
        refine (HD.out _ Z2.out.2.2.1).mono ?_; rintro e w3 ⟨rfl, hb⟩
        have Z3 := Lib.hid (Z2.out.next hb)
        clear hb g0 g1 g2 c0 c1 c2 c3 c4 c5 c6 c7 c8 c9 c10 c11
        obtain ⟨g0, g1, g2⟩ := Z3.out.1
        obtain ⟨c0, c1, c2, c3, c4, c5, c6, c7, c8, c9, c10, c11⟩ := Z3.out.era
        rcases hd : namedB s.rules x.rl with _ | _
        · have H6 := Lib.hid (eroE_6 HE.out HR.out HNE.out hd)
          clear hd
          go_wp2
          go_ret
          exact ⟨ret_int H6.out.symm, Z3.out.2.2.1⟩
        · have H3 : Hid (x.rl = ByteArray.empty ∨ namedB s.rules x.rl = true) := .inr hd
          clear hd
          have H0 := Lib.hid (eroE_0 HE.out HR.out H3.out)
          go_wp2
          go_ret
          exact ⟨ret_int H0.out.symm, Z3.out.2.2.1⟩
    | false =>
      rw [QE.out] at c4
      by_cases h2 : ErR x
      · have H2 := Lib.hid (eroE_2 (rules := s.rules) HE.out h2)
        unfold ErR at h2
        rcases (show x.off < -86400 ∨ (-86400 ≤ x.off ∧ 86400 < x.off) ∨ (-86400 ≤ x.off ∧ x.off ≤ 86400 ∧ x.sv < -86400) ∨ (-86400 ≤ x.off ∧ x.off ≤ 86400 ∧ -86400 ≤ x.sv ∧ 86400 < x.sv) by omega) with p1 | ⟨p1, p2⟩ | ⟨p1, p2, p3⟩ | ⟨p1, p2, p3, p4⟩
        all_goals
          clear h2
          go_wp2
          go_ret
          exact ⟨ret_int H2.out.symm, Z2.out.2.2.1⟩
      · obtain ⟨p1, p2, p3, p4⟩ : -86400 ≤ x.off ∧ x.off ≤ 86400 ∧ -86400 ≤ x.sv ∧ x.sv ≤ 86400 := by unfold ErR at h2; omega
        have HR := Lib.hid h2
        clear h2
        go_wp2_with fail
        refine (HD.out _ Z2.out.2.2.1).mono ?_; rintro e w3 ⟨rfl, hb⟩
        have Z3 := Lib.hid (Z2.out.next hb)
        clear hb g0 g1 g2 c0 c1 c2 c3 c4 c5 c6 c7 c8 c9 c10 c11
        obtain ⟨g0, g1, g2⟩ := Z3.out.1
        obtain ⟨c0, c1, c2, c3, c4, c5, c6, c7, c8, c9, c10, c11⟩ := Z3.out.era
        rcases hd : namedB s.rules x.rl with _ | _
        · have H6 := Lib.hid (eroE_6 HE.out HR.out HNE.out hd)
          clear hd
          go_wp2
          go_ret
          exact ⟨ret_int H6.out.symm, Z3.out.2.2.1⟩
        · have H3 : Hid (x.rl = ByteArray.empty ∨ namedB s.rules x.rl = true) := .inr hd
          clear hd
          by_cases hy : x.yr < 1900 ∨ 2099 < x.yr
          · have H4 := Lib.hid (eroE_y HE.out HR.out H3.out hy)
            rcases (show x.yr < 1900 ∨ (1900 ≤ x.yr ∧ 2099 < x.yr) by omega) with y1 | ⟨y1, y2⟩
            all_goals
              clear hy
              go_wp2
              go_ret
              exact ⟨ret_int H4.out.symm, Z3.out.2.2.1⟩
          · have H4 := Lib.hid (eroE_m HE.out HR.out H3.out hy)
            have y1 : 1900 ≤ x.yr := by omega
            have y2 : x.yr ≤ 2099 := by omega
            clear hy
            go_wp2_with fail
            refine (HC.out _).mono ?_; rintro e w3 ⟨rfl, hb⟩
            have Z4 := Lib.hid (Z3.out.next hb)
            clear hb g0 g1 g2 c0 c1 c2 c3 c4 c5 c6 c7 c8 c9 c10 c11
            obtain ⟨g0, g1, g2⟩ := Z4.out.1
            obtain ⟨c0, c1, c2, c3, c4, c5, c6, c7, c8, c9, c10, c11⟩ := Z4.out.era
            by_cases hm : chkM x.un.mo x.un.k x.un.a x.un.n x.un.t x.un.c = 0
            · have hm' : (chkM x.un.mo x.un.k x.un.a x.un.n x.un.t x.un.c != 0) = false := by rw [bne_eq_false_iff_eq]; exact hm
              have H5 : Hid (eroE s.rules x false = fndE x.yr x.un.mo x.un.k x.un.a x.un.n) := by show _ = _; rw [H4.out, if_neg (by rw [hm]; simp)]
              clear hm
              go_wp2_with fail
              refine (HG.out _ Z4.out.2.2.1).mono ?_; rintro e w4 ⟨⟨v, rfl⟩, hb⟩
              have Z5 := Lib.hid (Z4.out.next hb)
              clear hb g0 g1 g2 c0 c1 c2 c3 c4 c5 c6 c7 c8 c9 c10 c11
              obtain ⟨g0, g1, g2⟩ := Z5.out.1
              obtain ⟨c0, c1, c2, c3, c4, c5, c6, c7, c8, c9, c10, c11⟩ := Z5.out.era
              go_wp2
              go_ret
              exact ⟨ret_int H5.out.symm, Z5.out.2.2.1⟩
            · have hm' : (chkM x.un.mo x.un.k x.un.a x.un.n x.un.t x.un.c != 0) = true := by rw [bne_iff_ne]; exact hm
              have H5 : Hid (eroE s.rules x false = chkM x.un.mo x.un.k x.un.a x.un.n x.un.t x.un.c) := by show _ = _; rw [H4.out, if_pos hm]
              clear hm
              go_wp2
              go_ret
              exact ⟨ret_int H5.out.symm, Z4.out.2.2.1⟩
end Go.Proofs.YtbikdlcjbigafaaGreatDoor
namespace Go.Proofs.YtbikdlcjbigafaaGreatDoor
set_option linter.unusedVariables false
set_option linter.unusedSimpArgs false
open Go.ChangeShapes Go.WideShapes Go.ChangeAt Go.RowKit Civ

end Go.Proofs.YtbikdlcjbigafaaGreatDoor
