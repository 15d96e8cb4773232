/-
  The law on tree.Opt.
-/
import Derived.Test.YtlhidbbphngpcaaOptN
import Derived.Test.YtlhidbbphngpcaaSame
namespace Go.Proofs.Ytlhidbbphngpcaa
set_option linter.unusedVariables false
set_option linter.unusedSimpArgs false
open Go.ChangeShapes Go.WideShapes Go.ChangeAt Go.RowKit

theorem faultO (f : Frs) (vn va : Value) (w : World) (hf : FrsAt w vn va f) {e : Int} (h : frsE f = e) :
    Calls Try.prog 12 #[.agg #[vn, va]] w fun r w' => r = .returned (.int .i64 e) ∧ Below w.heap.size w w' := h ▸ fault_any f vn va w hf
theorem lp_lf {ns : List Nod} {t : Int} : ∀ {i : Nat} {a : Int} {n : Nat}, Lp ns t i a n → Lf ns t i a := fun h => h.lf
theorem i64_ge {x : Int} (h : I64 x) : -9223372036854775808 ≤ x := by
  have h' : (Lit.int .i64 x).wf = true := h
  simp [Lit.wf, IntKind.min, IntKind.max, IntKind.signed, IntKind.bits] at h'
  omega
theorem opt_big {f g : Frs} {F : Int → Int} {m s b : Bool} (h : Tells f F) (hg : OptIs f F m s b g) (h8 : 8000 < g.nodes.length) : 1000 < f.nodes.length := by
  have h1 := optP_le f F m
  have h2 : (cuts f.nodes).length ≤ (srtC (bnds f.nodes)).length := List.length_filter_le _ _
  have h3 := srtC_len (bnds f.nodes)
  have h4 := nod_count f.nodes
  have hs := hg.size h
  have h5 := srtC_len ((optP f F m).map Pc.an)
  rw [List.length_map] at h5
  unfold szP at hs
  split at hs <;> omega
/-- what f and g answer, both. -/
theorem opt_two {f g : Frs} {F : Int → Int} {m s b : Bool} (h : Tells f F) (hg : OptIs f F m s b g) (h8 : g.nodes.length ≤ 8000) (t : Int) (ht : I64 t) : ∃ (A : Ans), A.ck.nm.size ≤ maxLen ∧
    (∀ (vn va : Value) (w : World), FrsAt w vn va f → Calls Try.prog 15 #[.agg #[vn, va], .int .i64 t] w fun e w' => ∃ a c, e = .returned (.tuple #[.agg #[.int .i64 A.ck.off, .bool A.ck.sav, .string A.ck.nm, .slice a A.offs.length c, .int .i64 A.jump], .int .i64 0]) ∧ SlAt w' 1 RInt (.slice a A.offs.length c) A.offs ∧ Below w.heap.size w w') ∧
    (∀ (vn va : Value) (w : World), FrsAt w vn va g → Calls Try.prog 15 #[.agg #[vn, va], .int .i64 t] w fun e w' => ∃ a c, e = .returned (.tuple #[.agg #[.int .i64 A.ck.off, .bool A.ck.sav, .string A.ck.nm, .slice a A.offs.length c, .int .i64 A.jump], .int .i64 0]) ∧ SlAt w' 1 RInt (.slice a A.offs.length c) A.offs ∧ Below w.heap.size w w') := by
  obtain ⟨g0, g1, g2, g3, g4⟩ := frs_good h.ok
  have hF := h.lt t
  have hi : (F t).toNat < f.answers.length := by omega
  have hL := h.lf t
  rw [show F t = (((F t).toNat : Nat) : Int) by omega] at hL
  obtain ⟨j, n, hP, ⟨hj, hA⟩, -⟩ := hg.tells h (t := t) (i64_ge ht)
  have hs := (ansE_offs (g3 _ hi)).2
  have hgood := hg.good h h8
  have h64 : ∀ {w : World} {vn va : Value} {q : Frs}, FrsAt w vn va q → ∀ A ∈ q.answers, ∀ x ∈ A.offs, I64 x := fun hf A hm x hx => by
    obtain ⟨cs, vo, _, hv, _⟩ := hf.2.all _ hm
    exact ints64 hv x hx
  refine ⟨f.answers[(F t).toNat], by unfold maxLen; omega, fun vn va w hf => (evalOf_ok f vn va t _ w hf h.ok hL hi).mono ?_, fun vn va w hf => ?_⟩
  · rintro e w' ⟨v', he, ho, hb⟩
    obtain ⟨a, c, rfl⟩ := own_shape ho
    exact ⟨a, c, he, ints_of_own (h64 hf _ (List.getElem_mem hi)) ho, hb⟩
  · have := evalOf_ok g vn va t j w hf hgood (lp_lf hP) hj
    rw [hA] at this
    refine this.mono ?_
    rintro e w' ⟨v', he, ho, hb⟩
    obtain ⟨a, c, rfl⟩ := own_shape ho
    exact ⟨a, c, he, ints_of_own (h64 hf _ (by rw [← hA]; exact List.getElem_mem hj)) ho, hb⟩
/-- two forests in boxes of the call's own. -/
def LwS (w W : World) (G : Nat) (fn fa gn ga : Value) (g : Frs) : Prop := OBx W w.heap.size fn fa ∧ OBx W G gn ga ∧ Below w.heap.size w W ∧ FrsAt W gn ga g
theorem LwS.keep {w W W' : World} {G : Nat} {fn fa gn ga : Value} {g : Frs} (h : LwS w W G fn fa gn ga g) (hb : Below W.heap.size W W') : LwS w W' G fn fa gn ga g :=
  ⟨h.1.below hb h.1.2.2.2, h.2.1.below hb h.2.1.2.2.2, h.2.2.1.trans (hb.mono h.2.2.1.size), h.2.2.2.mono hb⟩
theorem LwS.new {w w1 : World} {fn fa gn ga : Value} {g : Frs} (h1 : OBx w1 w.heap.size fn fa) (h2 : Below w.heap.size w w1) (h3 : FrsAt w1 gn ga g) : LwS w (w1.alloc (.cells #[gn, ga] 26)) w1.heap.size fn fa gn ga g := by
  have hb : Below w1.heap.size w1 (w1.alloc (.cells #[gn, ga] 26)) := (Below.refl _ _).alloc (Nat.le_refl _) _
  exact ⟨h1.below hb h1.2.2.2, OBx.new _ _ _, h2.trans (hb.mono h2.size), h3.mono hb⟩
theorem LwS.facts {w W : World} {G : Nat} {fn fa gn ga : Value} {g : Frs} (h : LwS w W G fn fa gn ga g) : (W.cell? ⟨w.heap.size, 0, none⟩ = some fn ∧ W.cell? ⟨w.heap.size, 1, none⟩ = some fa ∧ w.heap.size < W.heap.size) ∧ W.cell? ⟨G, 0, none⟩ = some gn ∧ W.cell? ⟨G, 1, none⟩ = some ga ∧ G < W.heap.size :=
  ⟨⟨h.1.1, h.1.2.1, h.1.2.2.2⟩, h.2.1.1, h.2.1.2.1, h.2.1.2.2.2⟩
theorem wy_bits {wy : Int} (h0 : 0 ≤ wy) (h7 : wy ≤ 7) : (wy.tmod 2 = 1 ↔ (bits .and .i64 wy 1 != 0) = true) ∧ (wy.tmod 2 = 0 ∨ wy.tmod 2 = 1) := by
  have : wy = 0 ∨ wy = 1 ∨ wy = 2 ∨ wy = 3 ∨ wy = 4 ∨ wy = 5 ∨ wy = 6 ∨ wy = 7 := by omega
  rcases this with rfl | rfl | rfl | rfl | rfl | rfl | rfl | rfl <;> decide
set_option maxRecDepth 100000 in
set_option maxHeartbeats 4000000 in
theorem walkTreeOpts (vn va : Value) (f : Frs) (wy n : Int) (w : World) (hf : FrsAt w vn va f) (hw : I64 wy) (hn : I64 n) (hr : f.nodes.length * 8 ≤ 140737488355320) :
    Calls Try.prog 5 #[.agg #[vn, va], .int .i64 wy, .int .i64 n] w fun e w' => e = .returned (.bool true) ∧ Below w.heap.size w w' := by
  obtain ⟨ao, cap, rfl, hl⟩ := hf.1.shape
  obtain ⟨bo, cap2, rfl, hl2⟩ := hf.2.shape
  have HF := Lib.hid hf
  have HN := Lib.hid hn
  have HR := Lib.hid hr
  clear hn hl hl2 hr
  have f1 := (OBx.new w (.slice ao f.nodes.length cap) (.slice bo f.answers.length cap2))
  have b1 : Below w.heap.size w (w.alloc (.cells #[.slice ao f.nodes.length cap, .slice bo f.answers.length cap2] 26)) := (Below.refl _ _).alloc (Nat.le_refl _) _
  have F1 := Lib.hid f1
  have B1 := Lib.hid b1
  clear f1 b1
  by_cases hb : frsE f ≠ 0 ∨ wy < 0 ∨ 7 < wy
  · obtain ⟨r, hr⟩ : ∃ r, r = frsE f := ⟨_, rfl⟩
    have HO : Hid (∀ W, Below w.heap.size w W → _) := fun W hw => opt_bad f _ _ wy W (hf.mono hw) hb
    have HT : Hid (∀ W, Below w.heap.size w W → _) := fun W hw => fault_any f _ _ W (hf.mono hw)
    rw [← hr] at HO HT hb
    clear hr hf
    by_cases hr0 : r = 0
    · subst hr0
      have hb' := hb.resolve_left (by simp)
      rw [if_neg (by simp)] at HO
      clear hb
      go_enter Try.func5, Try.ntmps5
      go_wp2_with fail
      refine (HO.out _ B1.out).mono ?_; rintro e w1 ⟨rfl, hb1⟩
      have F2 := Lib.hid (F1.out.below hb1 F1.out.2.2.2)
      have B2 := Lib.hid (B1.out.trans (hb1.mono B1.out.size))
      clear hb1
      obtain ⟨c0, c1, c2, c3⟩ := F2.out
      go_wp2_with fail
      have G1 := Lib.hid (OBx.new w1 (.slice none 0 0) (.slice none 0 0))
      have B3 := Lib.hid (B2.out.alloc B2.out.size (.cells #[.slice none 0 0, .slice none 0 0] 26))
      refine (HT.out _ B3.out).mono ?_; rintro e w2 ⟨rfl, hb2⟩
      have G2 := Lib.hid (G1.out.below hb2 G1.out.2.2.2)
      have B4 := Lib.hid (B3.out.trans (hb2.mono B3.out.size))
      obtain ⟨d0, d1, d2, d3⟩ := G2.out
      clear hb2 c0 c1 c2 c3
      rcases Int.lt_or_le wy 0 with hlo | hlo
      · clear hb'
        go_wp2_with fail
        go_ret
        exact ⟨rfl, B4.out⟩
      · have hhi : 7 < wy := by omega
        clear hb'
        go_wp2_with fail
        go_ret
        exact ⟨rfl, B4.out⟩
    · rw [if_pos hr0] at HO
      clear hb
      have hr1 : (r == 0) = false := by rw [beq_eq_false_iff_ne]; exact hr0
      have hr2 : (r != 0) = true := by rw [bne_iff_ne]; exact hr0
      go_enter Try.func5, Try.ntmps5
      go_wp2_with fail
      refine (HO.out _ B1.out).mono ?_; rintro e w1 ⟨rfl, hb1⟩
      have F2 := Lib.hid (F1.out.below hb1 F1.out.2.2.2)
      have B2 := Lib.hid (B1.out.trans (hb1.mono B1.out.size))
      clear hb1
      obtain ⟨c0, c1, c2, c3⟩ := F2.out
      go_wp2_with fail
      have G1 := Lib.hid (OBx.new w1 (.slice none 0 0) (.slice none 0 0))
      have B3 := Lib.hid (B2.out.alloc B2.out.size (.cells #[.slice none 0 0, .slice none 0 0] 26))
      refine (HT.out _ B3.out).mono ?_; rintro e w2 ⟨rfl, hb2⟩
      have G2 := Lib.hid (G1.out.below hb2 G1.out.2.2.2)
      have B4 := Lib.hid (B3.out.trans (hb2.mono B3.out.size))
      obtain ⟨d0, d1, d2, d3⟩ := G2.out
      clear hb2 c0 c1 c2 c3
      go_wp2_with fail
      go_ret
      exact ⟨rfl, B4.out⟩
  · have h0 : frsE f = 0 := Classical.byContradiction fun h => hb (.inl h)
    have hlo : 0 ≤ wy := by omega
    have hhi : wy ≤ 7 := by omega
    clear hb
    have hbd : ∀ n ∈ f.nodes, I64 n.bd := fun n hn => (nods64 hf.1 n hn).2.1
    obtain ⟨F, hT⟩ := tells_ex h0 (fun n hn => i64_ge (hbd n hn))
    have HO : Hid (∀ W, Below w.heap.size w W → _) := fun W hw => opt_ok f F hT hbd _ _ wy W (hf.mono hw) hlo hhi _ _ _ rfl rfl rfl
    have HT : Hid (∀ W, Below w.heap.size w W → _) := fun W hw => faultO f _ _ W (hf.mono hw) h0
    have HB : Hid (∀ W, Below w.heap.size w W → _) := fun W hw => bounds_any f _ _ W (hf.mono hw) HR.out
    obtain ⟨hm1, hm2⟩ := wy_bits hlo hhi
    generalize (bits .and .i64 wy 1 != 0) = m at *
    generalize (bits .and .i64 wy 2 != 0) = s at *
    generalize (bits .and .i64 wy 4 != 0) = b at *
    have HTe := Lib.hid hT
    have HM1 := Lib.hid hm1
    have HM2 := Lib.hid hm2
    clear hf h0 hbd hT hm1 hm2
    go_enter Try.func5, Try.ntmps5
    go_wp2_with fail
    refine (HO.out _ B1.out).mono ?_; rintro e w1 ⟨g, hg, hg64, hcase, hb1⟩
    have F2 := Lib.hid (F1.out.below hb1 F1.out.2.2.2)
    have B2 := Lib.hid (B1.out.trans (hb1.mono B1.out.size))
    have HG := Lib.hid hg
    clear hb1 hg hg64
    obtain ⟨c0, c1, c2, c3⟩ := F2.out
    rcases hcase with ⟨hle, vg, vb, rfl, hfg, -⟩ | ⟨hgt, rfl⟩
    · obtain ⟨a1, k1, rfl, hla⟩ := hfg.1.shape
      obtain ⟨a2, k2, rfl, hlb⟩ := hfg.2.shape
      have S2 := Lib.hid (LwS.new F2.out B2.out hfg)
      have HFG : Hid (∀ (vn va : Value) W, FrsAt W vn va g → _) := fun vn va W hw => faultO g vn va W hw (HG.out.good HTe.out hle)
      have HTW : Hid (m = true → ∀ va W, SlAt W 5 (RAns W) va g.answers → _) := fun h va W hw => twins_no g.answers va W hw (by have := HG.out; rw [h] at this; exact this.ans_dup)
      clear hfg hla hlb
      go_wp2_with fail
      clear c0 c1 c2 c3
      refine (HT.out _ S2.out.2.2.1).mono ?_; rintro e w2 ⟨rfl, hb2⟩
      have S3 := Lib.hid (S2.out.keep hb2)
      clear hb2
      obtain ⟨⟨x0, x1, x3⟩, y0, y1, y3⟩ := S3.out.facts
      go_wp2_with fail
      refine (HFG.out _ _ _ S3.out.2.2.2).mono ?_; rintro e w3 ⟨rfl, hb3⟩
      have S4 := Lib.hid (S3.out.keep hb3)
      clear hb3 x0 x1 x3 y0 y1 y3
      obtain ⟨⟨x0, x1, x3⟩, y0, y1, y3⟩ := S4.out.facts
      rcases HM2.out with h2 | h2
      · go_wp2_with fail
        refine (HB.out _ S4.out.2.2.1).mono ?_; rintro e w5 ⟨v5, xs, rfl, hv5, hb5⟩
        have HV5 := Lib.hid hv5
        have S5 := Lib.hid (S4.out.keep hb5)
        clear hv5 hb5 x0 x1 x3 y0 y1 y3
        obtain ⟨⟨x0, x1, x3⟩, y0, y1, y3⟩ := S5.out.facts
        go_wp2_with fail
        refine (asked_any v5 xs n _ HV5.out HN.out).mono ?_; rintro e w' ⟨t, h64, rfl, rfl⟩
        obtain ⟨A, hA, hE, hO⟩ := opt_two HTe.out HG.out hle t h64
        have HE := Lib.hid hE
        have HOg := Lib.hid hO
        have HA := Lib.hid hA
        clear hE hO h64 hA
        go_wp2_with fail
        refine (HE.out _ _ _ (HF.out.mono S5.out.2.2.1)).mono ?_; rintro e w6 ⟨a6, c6, rfl, hs6, hb6⟩
        have HS6 := Lib.hid hs6
        have S6 := Lib.hid (S5.out.keep hb6)
        clear hs6 hb6 x0 x1 x3 y0 y1 y3
        obtain ⟨⟨x0, x1, x3⟩, y0, y1, y3⟩ := S6.out.facts
        go_wp2_with fail
        have bx := (Below.refl w6.heap.size w6).alloc (Nat.le_refl _) (.cells #[.int .i64 A.ck.off, .bool A.ck.sav, .string A.ck.nm, .slice a6 A.offs.length c6, .int .i64 A.jump] 39)
        have AB := Lib.hid (AnBx.new w6 A (.slice a6 A.offs.length c6))
        have S7 := Lib.hid (S6.out.keep bx)
        have HS7 := Lib.hid (HS6.out.mono bx fun _ _ h => h)
        refine (HOg.out _ _ _ S7.out.2.2.2).mono ?_; rintro e w8 ⟨a8, c8, rfl, hs8, hb8⟩
        have HS8 := Lib.hid hs8
        have AB8 := Lib.hid (AB.out.below hb8 AB.out.2)
        have S8 := Lib.hid (S7.out.keep hb8)
        have HS9 := Lib.hid (HS7.out.mono hb8 fun _ _ h => h)
        clear hs8 hb8 x0 x1 x3 y0 y1 y3 bx
        obtain ⟨⟨p0, p1, p2, p3, p4⟩, hz8⟩ := AB8.out
        have hz6 : w6.heap.size < w8.heap.size := hz8
        go_wp2_with fail
        have bx := (Below.refl w8.heap.size w8).alloc (Nat.le_refl _) (.cells #[.int .i64 A.ck.off, .bool A.ck.sav, .string A.ck.nm, .slice a8 A.offs.length c8, .int .i64 A.jump] 39)
        refine (sameAnswer_same A _ _ _ (HS9.out.mono bx fun _ _ h => h) (HS8.out.mono bx fun _ _ h => h) HA.out).mono ?_; rintro e w9 ⟨rfl, hb9⟩
        have B9 := Lib.hid ((S8.out.keep bx).keep hb9).2.2.1
        clear bx hb9
        go_wp2_with fail
        go_ret
        exact ⟨rfl, B9.out⟩
      · have hmt := HM1.out.1 h2
        go_wp2_with fail
        refine (HTW.out hmt _ _ S4.out.2.2.2.2).mono ?_; rintro e w4 ⟨rfl, hb4⟩
        have S4' := Lib.hid (S4.out.keep hb4)
        clear hb4 x0 x1 x3 y0 y1 y3
        have S4 := S4'
        clear S4'
        obtain ⟨⟨x0, x1, x3⟩, y0, y1, y3⟩ := S4.out.facts
        go_wp2_with fail
        refine (HB.out _ S4.out.2.2.1).mono ?_; rintro e w5 ⟨v5, xs, rfl, hv5, hb5⟩
        have HV5 := Lib.hid hv5
        have S5 := Lib.hid (S4.out.keep hb5)
        clear hv5 hb5 x0 x1 x3 y0 y1 y3
        obtain ⟨⟨x0, x1, x3⟩, y0, y1, y3⟩ := S5.out.facts
        go_wp2_with fail
        refine (asked_any v5 xs n _ HV5.out HN.out).mono ?_; rintro e w' ⟨t, h64, rfl, rfl⟩
        obtain ⟨A, hA, hE, hO⟩ := opt_two HTe.out HG.out hle t h64
        have HE := Lib.hid hE
        have HOg := Lib.hid hO
        have HA := Lib.hid hA
        clear hE hO h64 hA
        go_wp2_with fail
        refine (HE.out _ _ _ (HF.out.mono S5.out.2.2.1)).mono ?_; rintro e w6 ⟨a6, c6, rfl, hs6, hb6⟩
        have HS6 := Lib.hid hs6
        have S6 := Lib.hid (S5.out.keep hb6)
        clear hs6 hb6 x0 x1 x3 y0 y1 y3
        obtain ⟨⟨x0, x1, x3⟩, y0, y1, y3⟩ := S6.out.facts
        go_wp2_with fail
        have bx := (Below.refl w6.heap.size w6).alloc (Nat.le_refl _) (.cells #[.int .i64 A.ck.off, .bool A.ck.sav, .string A.ck.nm, .slice a6 A.offs.length c6, .int .i64 A.jump] 39)
        have AB := Lib.hid (AnBx.new w6 A (.slice a6 A.offs.length c6))
        have S7 := Lib.hid (S6.out.keep bx)
        have HS7 := Lib.hid (HS6.out.mono bx fun _ _ h => h)
        refine (HOg.out _ _ _ S7.out.2.2.2).mono ?_; rintro e w8 ⟨a8, c8, rfl, hs8, hb8⟩
        have HS8 := Lib.hid hs8
        have AB8 := Lib.hid (AB.out.below hb8 AB.out.2)
        have S8 := Lib.hid (S7.out.keep hb8)
        have HS9 := Lib.hid (HS7.out.mono hb8 fun _ _ h => h)
        clear hs8 hb8 x0 x1 x3 y0 y1 y3 bx
        obtain ⟨⟨p0, p1, p2, p3, p4⟩, hz8⟩ := AB8.out
        have hz6 : w6.heap.size < w8.heap.size := hz8
        go_wp2_with fail
        have bx := (Below.refl w8.heap.size w8).alloc (Nat.le_refl _) (.cells #[.int .i64 A.ck.off, .bool A.ck.sav, .string A.ck.nm, .slice a8 A.offs.length c8, .int .i64 A.jump] 39)
        refine (sameAnswer_same A _ _ _ (HS9.out.mono bx fun _ _ h => h) (HS8.out.mono bx fun _ _ h => h) HA.out).mono ?_; rintro e w9 ⟨rfl, hb9⟩
        have B9 := Lib.hid ((S8.out.keep bx).keep hb9).2.2.1
        clear bx hb9
        go_wp2_with fail
        go_ret
        exact ⟨rfl, B9.out⟩
    · have h1000 := opt_big HTe.out HG.out hgt
      have h1I : (1000 : Int) < (f.nodes.length : Int) := by omega
      clear hgt h1000
      go_wp2_with fail
      have G1 := Lib.hid (OBx.new w1 (.slice none 0 0) (.slice none 0 0))
      have B3 := Lib.hid (B2.out.alloc B2.out.size (.cells #[.slice none 0 0, .slice none 0 0] 26))
      refine (HT.out _ B3.out).mono ?_; rintro e w2 ⟨rfl, hb2⟩
      have G2 := Lib.hid (G1.out.below hb2 G1.out.2.2.2)
      have B4 := Lib.hid (B3.out.trans (hb2.mono B3.out.size))
      obtain ⟨d0, d1, d2, d3⟩ := G2.out
      have F3 := Lib.hid (F2.out.below (((Below.refl w1.heap.size w1).alloc (Nat.le_refl _) _).trans (hb2.mono (by rw [size_alloc]; omega))) F2.out.2.2.2)
      obtain ⟨x0, x1, x2, x3⟩ := F3.out
      clear hb2 c0 c1 c2 c3
      go_wp2_with fail
      go_ret
      exact ⟨rfl, B4.out⟩
end Go.Proofs.Ytlhidbbphngpcaa
