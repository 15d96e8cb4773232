/-
  The law OptSame.
-/
import Derived.Test.YtlhidbbphngpcaaOptR
import Derived.Test.YtlhidbbphngpcaaKf
import Derived.Deep.RegionHeld3
import Derived.OrdersHeld
namespace Go.Proofs.Ytlhidbbphngpcaa
set_option linter.unusedVariables false
set_option linter.unusedSimpArgs false
open Go.ChangeShapes Go.WideShapes Go.ChangeAt Go.RowKit

/-- what f and g answer, both: by tree.Eval. -/
theorem opt_twoE {f g : Frs} {F : Int → Int} {m s b : Bool} (h : Tells f F) (hg : OptIs f F m s b g) (h8 : g.nodes.length ≤ 8000) (t : Int) (ht : I64 t) : ∃ (A : Ans), A.ck.nm.size ≤ maxLen ∧
    (∀ (vn va : Value) (w : World), FrsAt w vn va f → Calls Try.prog 20 #[.agg #[vn, va], .int .i64 t] w fun e w' => ∃ a c, e = .returned (.tuple #[.agg #[.int .i64 A.ck.off, .bool A.ck.sav, .string A.ck.nm, .slice a A.offs.length c, .int .i64 A.jump], .int .i64 0]) ∧ SlAt w' 1 RInt (.slice a A.offs.length c) A.offs ∧ Below w.heap.size w w') ∧
    (∀ (vn va : Value) (w : World), FrsAt w vn va g → Calls Try.prog 20 #[.agg #[vn, va], .int .i64 t] w fun e w' => ∃ a c, e = .returned (.tuple #[.agg #[.int .i64 A.ck.off, .bool A.ck.sav, .string A.ck.nm, .slice a A.offs.length c, .int .i64 A.jump], .int .i64 0]) ∧ SlAt w' 1 RInt (.slice a A.offs.length c) A.offs ∧ Below w.heap.size w w') := by
  obtain ⟨g0, g1, g2, g3, g4⟩ := frs_good h.ok
  have hF := h.lt t
  have hi : (F t).toNat < f.answers.length := by omega
  have hL := h.lf t
  rw [show F t = (((F t).toNat : Nat) : Int) by omega] at hL
  obtain ⟨j, n, hP, ⟨hj, hA⟩, -⟩ := hg.tells h (t := t) (i64_ge ht)
  have hs := (ansE_offs (g3 _ hi)).2
  have hgood := hg.good h h8
  have h64 : ∀ {w : World} {vn va : Value} {q : Frs}, FrsAt w vn va q → ∀ A ∈ q.answers, ∀ x ∈ A.offs, I64 x := fun hf A hm x hx => by
    obtain ⟨cs, vo, _, hv, _⟩ := hf.2.all _ hm
    exact ints64 hv x hx
  refine ⟨f.answers[(F t).toNat], by unfold maxLen; omega, fun vn va w hf => (eval_ok f vn va t _ w hf h.ok hL hi).mono ?_, fun vn va w hf => ?_⟩
  · rintro e w' ⟨v', he, ho, hb⟩
    obtain ⟨a, c, rfl⟩ := own_shape ho
    exact ⟨a, c, he, ints_of_own (h64 hf _ (List.getElem_mem hi)) ho, hb⟩
  · have := eval_ok g vn va t j w hf hgood (lp_lf hP) hj
    rw [hA] at this
    refine this.mono ?_
    rintro e w' ⟨v', he, ho, hb⟩
    obtain ⟨a, c, rfl⟩ := own_shape ho
    exact ⟨a, c, he, ints_of_own (h64 hf _ (by rw [← hA]; exact List.getElem_mem hj)) ho, hb⟩
/-- Opt of a small forest, at ways that may be. -/
theorem opt_small (f : Frs) (hs : f.nodes.length ≤ 1000) (F : Int → Int) (hT : Tells f F) (wy : Int) (h0 : 0 ≤ wy) (h7 : wy ≤ 7) (vn va : Value) (w : World) (hf : FrsAt w vn va f) :
    Calls Try.prog 22 #[.agg #[vn, va], .int .i64 wy] w fun e w' => ∃ g, OptIs f F (bits .and .i64 wy 1 != 0) (bits .and .i64 wy 2 != 0) (bits .and .i64 wy 4 != 0) g ∧ (∀ n ∈ g.nodes, N64 n) ∧ g.nodes.length ≤ 8000 ∧ (∃ a c a' c', e = .returned (.tuple #[.agg #[.slice a g.nodes.length c, .slice a' g.answers.length c'], .int .i64 0]) ∧ FrsAt w' (.slice a g.nodes.length c) (.slice a' g.answers.length c') g ∧ ∀ (G : Nat) (u u' : Value), G < w.heap.size → FrsAt ((w'.setCell ⟨G, 0, none⟩ u).setCell ⟨G, 1, none⟩ u') (.slice a g.nodes.length c) (.slice a' g.answers.length c') g) ∧ Below w.heap.size w w' := by
  refine (opt_ok f F hT (fun n hn => (nods64 hf.1 n hn).2.1) vn va wy w hf h0 h7 _ _ _ rfl rfl rfl).mono ?_
  rintro e w' ⟨g, hg, h64, hc, hb⟩
  rcases hc with ⟨h8, vn', va', rfl, hfg, hfx⟩ | ⟨h8, _⟩
  · obtain ⟨a, c, rfl, _⟩ := hfg.1.shape
    obtain ⟨a', c', rfl, _⟩ := hfg.2.shape
    exact ⟨g, hg, h64, h8, ⟨a, c, a', c', rfl, hfg, hfx⟩, hb⟩
  · exact absurd (opt_big hT hg h8) (by omega)
theorem OBx.other {w : World} {D G : Nat} {vn va : Value} (h : OBx w D vn va) (n : ¬ D = G) (j : Nat) (u : Value) : OBx (w.setCell ⟨G, j, none⟩ u) D vn va :=
  h.block (Below.heap_setCell _ _ _ _ n) (by rw [World.size_setCell]; exact h.2.2.2)
def OpB (w1 wx : World) (D G : Nat) (fn fa gn ga : Value) (g : Frs) : Prop := OBx wx D fn fa ∧ OBx wx G gn ga ∧ Below D w1 wx ∧ FrsAt wx gn ga g ∧ D < G
theorem OpB.ofNew {w1 w9 : World} {D : Nat} {fn fa gn ga : Value} {g : Frs} (h : OBx w9 D fn fa) (hb : Below D w1 w9) (hg : FrsAt w9 gn ga g) : OpB w1 (w9.alloc (.cells #[gn, ga] 26)) D w9.heap.size fn fa gn ga g := by
  have b : Below w9.heap.size w9 (w9.alloc (.cells #[gn, ga] 26)) := (Below.refl _ _).alloc (Nat.le_refl _) _
  exact ⟨h.below b h.2.2.2, OBx.new _ _ _, hb.trans (b.mono (Nat.le_of_lt h.2.2.2)), hg.mono b, h.2.2.2⟩
theorem OpB.ofSet {w1 w9 : World} {D G : Nat} {fn fa gn ga : Value} {g : Frs} (h : OBx w9 D fn fa) (ho : OBx w9 G (.slice none 0 0) (.slice none 0 0)) (hb : Below D w1 w9) (hg : FrsAt ((w9.setCell ⟨G, 0, none⟩ gn).setCell ⟨G, 1, none⟩ ga) gn ga g) (hD : D < G) : OpB w1 ((w9.setCell ⟨G, 0, none⟩ gn).setCell ⟨G, 1, none⟩ ga) D G fn fa gn ga g :=
  ⟨(h.other (by omega) 0 _).other (by omega) 1 _, (ho.set0 _).set1 _, (hb.setCell (by show D ≤ G; omega) _).setCell (by show D ≤ G; omega) _, hg, hD⟩
theorem OpB.keep {w1 wx w' : World} {D G : Nat} {fn fa gn ga : Value} {g : Frs} (h : OpB w1 wx D G fn fa gn ga g) (hb : Below wx.heap.size wx w') : OpB w1 w' D G fn fa gn ga g :=
  ⟨h.1.below hb h.1.2.2.2, h.2.1.below hb h.2.1.2.2.2, h.2.2.1.trans (hb.mono (Nat.le_of_lt h.1.2.2.2)), h.2.2.2.1.mono hb, h.2.2.2.2⟩
set_option maxRecDepth 100000 in
set_option maxHeartbeats 4000000 in
theorem walkOptSame (v : Value) (xs : List Rw) (ways n : Int) (W : World) (hv : SlAt W 4 RRw v xs) (hw : (Lit.int .i64 ways).wf = true) (hn : (Lit.int .i64 n).wf = true) :
    Calls Try.prog 6 #[v, .int .i64 ways, .int .i64 n] W fun e w' => e = .returned (.bool true) ∧ Below W.heap.size W w' := by
  have HF := Lib.hid (forest_lim v xs W hv)
  have HP := Lib.hid (fun w => picked_v n 80 w hn (by omega) (by omega))
  have HP8 := Lib.hid (fun w => picked_v ways 8 w hw (by omega) (by omega))
  have HP9 := Lib.hid (fun w => picked_v ways 9 w hw (by omega) (by omega))
  obtain ⟨pb0, pb1⟩ := pkv_bd n 80 (by omega)
  obtain ⟨pc0, pc1⟩ := pkv_bd ways 8 (by omega)
  obtain ⟨pd0, pd1⟩ := pkv_bd ways 9 (by omega)
  obtain ⟨an, cn, rfl, ln⟩ := hv.shape
  clear hv hn hw ln
  generalize pkv n 80 = q at *
  generalize pkv ways 8 = wy at *
  generalize pkv ways 9 = wz at *
  go_enter Try.func6, Try.ntmps6
  go_wp2_with fail
  refine HF.out.mono ?_; rintro e w1 ⟨vn, va, f, rfl, hf, ⟨h0, h41⟩, hb1⟩
  clear HF
  obtain ⟨nn, cnn, rfl, -⟩ := hf.1.shape
  obtain ⟨na, cna, rfl, -⟩ := hf.2.shape
  obtain ⟨F, hT⟩ := tells_ex h0 (fun n hn => i64_ge (nods64 hf.1 n hn).2.1)
  have HT := Lib.hid hT
  have HO := Lib.hid (fun vn va w hf => opt_small f (by omega) F hT wy pc0 (by omega) vn va w hf)
  clear hT
  have HFR := Lib.hid hf
  have f1 := OBx.new w1 (.slice nn f.nodes.length cnn) (.slice na f.answers.length cna)
  have b1 : Below w1.heap.size w1 (w1.alloc (.cells #[.slice nn f.nodes.length cnn, .slice na f.answers.length cna] 26)) := (Below.refl _ _).alloc (Nat.le_refl _) _
  clear hf
  go_upto_region 2 with (fail)
  generalize w1.alloc (.cells #[.slice nn f.nodes.length cnn, .slice na f.answers.length cna] 26) = w2 at *
  have bd : Below w1.heap.size w1 w2.drew := b1.drew
  have bda : ∀ o, Below w1.heap.size w1 (w2.drew.alloc o) := fun o => b1.drew.alloc b1.size o
  have HBA := Lib.hid bda
  have HBD := Lib.hid bd
  have HFM : Hid (∀ W', Below w1.heap.size w1 W' → FrsAt W' (.slice nn f.nodes.length cnn) (.slice na f.answers.length cna) f) := fun W' hb => HFR.out.mono hb
  clear b1 bd bda
  have HWD : Hid (W.heap.size ≤ w1.heap.size) := Lib.hid hb1.size
  have HBW1 := Lib.hid hb1
  clear hb1
  generalize w1.heap.size = D at *
  obtain ⟨c0, c1, c2, c3⟩ := f1
  have HOD : Hid (OBx w2.drew D (.slice nn f.nodes.length cnn) (.slice na f.answers.length cna)) := Lib.hid ⟨c0, c1, c2, c3⟩
  have HOA : Hid (∀ o, OBx (w2.drew.alloc o) D (.slice nn f.nodes.length cnn) (.slice na f.answers.length cna)) := fun o => HOD.out.below ((Below.refl _ _).alloc (Nat.le_refl _) o) c3
  have n1 : ¬ D = w2.heap.size := by omega
  go_cut [8, 9] (fun u8 u9 wx => ∃ (G : Nat) (g : Frs) (a a' : Option Addr) (c c' : Nat), u8 = .pointer (some ⟨G, 0, none⟩) ∧ u9 = .int .i64 0 ∧ Hid (OpB w1 wx D G (.slice nn f.nodes.length cnn) (.slice na f.answers.length cna) (.slice a g.nodes.length c) (.slice a' g.answers.length c') g) ∧ Hid (OptIs f F (bits .and .i64 wy 1 != 0) (bits .and .i64 wy 2 != 0) (bits .and .i64 wy 4 != 0) g) ∧ Hid (g.nodes.length ≤ 8000))
  case first =>
    go_region_held3 (fun w' => w'.cell? ⟨D, 0, none⟩ = some (.slice nn f.nodes.length cnn) ∧ w'.cell? ⟨D, 1, none⟩ = some (.slice na f.answers.length cna))
      (first | exact ⟨s0, s1⟩ | exact ⟨c0, c1⟩ | exact ⟨((OF.out.other n1 0 _).other n1 1 _).1, ((OF.out.other n1 0 _).other n1 1 _).2.1⟩ | go_keep)
      (first | (go_at_call 19; refine (HP8.out _).mono ?_; rintro e w9 ⟨rfl, rfl⟩) | (go_at_call 22; refine (HO.out _ _ _ (HFM.out _ (by first | exact HBD.out | exact HBA.out _))).mono ?_; rintro e w9 ⟨g, hg, hg64, hg8, ⟨a, c, a', c', rfl, hfg, hfx⟩, hb9⟩; have oF : OBx w9 D (.slice nn f.nodes.length cnn) (.slice na f.answers.length cna) := (by first | exact HOD.out.below hb9 HOD.out.2.2.2 | exact (HOA.out _).below hb9 (HOA.out _).2.2.2); have HBE : Hid (Below D w1 w9) := (by first | exact HBD.out.trans (hb9.mono (Nat.le_of_lt c3)) | exact (HBA.out _).trans (hb9.mono (Nat.le_of_lt (HOA.out _).2.2.2))); have OF := Lib.hid oF; obtain ⟨s0, s1, sf, sz⟩ := oF; have HG := Lib.hid hg; have HG8 := Lib.hid hg8; have HFG := Lib.hid hfg; have HFX := Lib.hid hfx; (try (have oG : OBx w9 w2.heap.size (.slice none 0 0) (.slice none 0 0) := (OBx.new w2.drew (.slice none 0 0) (.slice none 0 0)).below hb9 (OBx.new w2.drew (.slice none 0 0) (.slice none 0 0)).2.2.2; have OG := Lib.hid oG; obtain ⟨y0, y1, y2, y3⟩ := oG)); clear hg hg64 hg8 hfg hfx hb9))
    · go_wp2_with fail
      go_meet
      exact ⟨w9.heap.size, g, a, a', c, c', rfl, rfl, OpB.ofNew OF.out HBE.out HFG.out, HG, HG8⟩
    · go_wp2_with fail
      go_meet
      exact ⟨w2.heap.size, g, a, a', c, c', rfl, rfl, OpB.ofSet OF.out OG.out HBE.out (HFX.out _ _ _ (OBx.new w2.drew (.slice none 0 0) (.slice none 0 0)).2.2.2) c3, HG, HG8⟩
    · go_wp2_with fail
      go_meet
      exact ⟨w2.heap.size, g, a, a', c, c', rfl, rfl, OpB.ofSet OF.out OG.out HBE.out (HFX.out _ _ _ (OBx.new w2.drew (.slice none 0 0) (.slice none 0 0)).2.2.2) c3, HG, HG8⟩
  case rest =>
    obtain ⟨G, g, a1, a2, k1, k2, rfl, rfl, HB1, HG, HG8⟩ := hcut
    obtain ⟨⟨t0, t1, -, t3⟩, ⟨y0, y1, -, y3⟩, -⟩ := HB1.out
    have HTW := Lib.hid (opt_twoE HT.out HG.out HG8.out (q - 30) (i64_of (by omega) (by omega)))
    have HFK := HFM
    clear HO HP8 HFM HFR HOD HOA HBA HBD n1 c0 c1 c3 h0
    go_wp2_with fail
    refine (HP.out _).mono ?_; rintro e w' ⟨rfl, rfl⟩
    obtain ⟨A, hA, hE, hO⟩ := HTW.out
    have HE := Lib.hid hE
    have HOg := Lib.hid hO
    have HA := Lib.hid hA
    have HFF : Hid (∀ W', Below D w1 W' → FrsAt W' (.slice nn f.nodes.length cnn) (.slice na f.answers.length cna) f) := HFK
    clear hE hO hA HTW HFK
    go_wp2_with fail
    refine (HE.out _ _ _ (HFF.out _ HB1.out.2.2.1)).mono ?_; rintro e w6 ⟨a6, c6, rfl, hs6, hb6⟩
    have HS6 := Lib.hid hs6
    have HB6 := Lib.hid (HB1.out.keep hb6)
    clear hs6 hb6 t0 t1 t3 y0 y1 y3
    obtain ⟨⟨t0, t1, -, t3⟩, ⟨y0, y1, -, y3⟩, -⟩ := HB6.out
    go_wp2_with fail
    have bx := (Below.refl w6.heap.size w6).alloc (Nat.le_refl _) (.cells #[.int .i64 A.ck.off, .bool A.ck.sav, .string A.ck.nm, .slice a6 A.offs.length c6, .int .i64 A.jump] 39)
    have AB := Lib.hid (AnBx.new w6 A (.slice a6 A.offs.length c6))
    have HB7 := Lib.hid (HB6.out.keep bx)
    have HS7 := Lib.hid (HS6.out.mono bx fun _ _ h => h)
    refine (HOg.out _ _ _ HB7.out.2.2.2.1).mono ?_; rintro e w8 ⟨a8, c8, rfl, hs8, hb8⟩
    have HS8 := Lib.hid hs8
    have AB8 := Lib.hid (AB.out.below hb8 AB.out.2)
    have HB8 := Lib.hid (HB7.out.keep hb8)
    have HS9 := Lib.hid (HS7.out.mono hb8 fun _ _ h => h)
    clear hs8 hb8 t0 t1 t3 y0 y1 y3 bx
    obtain ⟨⟨t0, t1, -, t3⟩, -, -⟩ := HB8.out
    go_upto_region 6 with (fail)
    have bx := (Below.refl w8.heap.size w8).alloc (Nat.le_refl _) (.cells #[.int .i64 A.ck.off, .bool A.ck.sav, .string A.ck.nm, .slice a8 A.offs.length c8, .int .i64 A.jump] 39)
    have AC := Lib.hid (AnBx.new w8 A (.slice a8 A.offs.length c8))
    have AB9 := Lib.hid (AB8.out.below bx AB8.out.2)
    have HB9 := Lib.hid (HB8.out.keep bx)
    have HS10 := Lib.hid (HS9.out.mono bx fun _ _ h => h)
    have HS11 := Lib.hid (HS8.out.mono bx fun _ _ h => h)
    clear bx t0 t1 t3
    generalize w8.alloc (.cells #[.int .i64 A.ck.off, .bool A.ck.sav, .string A.ck.nm, .slice a8 A.offs.length c8, .int .i64 A.jump] 39) = wb at *
    have HD6 : Hid (D < w6.heap.size) := Lib.hid HB6.out.1.2.2.2
    have HD8 : Hid (D < w8.heap.size) := Lib.hid HB8.out.1.2.2.2
    clear HB1 HB6 HB7 HB8 HS6 HS7 HS8 HS9 AB AB8 HE HOg HP HG HG8
    generalize w6.heap.size = PA at *
    generalize w8.heap.size = PB at *
    obtain ⟨⟨t0, t1, t2, t3⟩, -, hbw, -⟩ := HB9.out
    have HOB : Hid (∀ (vn va : Value) (w : World), FrsAt w vn va f → Calls Try.prog 22 #[.agg #[vn, va], .int .i64 (8 + wz)] w fun e w' => e = .returned (.tuple #[.agg #[.slice none 0 0, .slice none 0 0], .int .i64 2]) ∧ Below w.heap.size w w') := fun vn va w hf => by
      have := opt_bad f vn va (8 + wz) w hf (.inr (.inr (by omega)))
      rw [if_neg (by simp [HT.out.ok])] at this
      exact this
    have hsum : IntKind.i64.wrap (8 + wz) = 8 + wz := by simp [IntKind.wrap, IntKind.bits, IntKind.signed]; omega
    have HOD : Hid (OBx wb.drew D (.slice nn f.nodes.length cnn) (.slice na f.answers.length cna)) := Lib.hid ⟨t0, t1, t2, t3⟩
    have HOA : Hid (∀ o, OBx (wb.drew.alloc o) D (.slice nn f.nodes.length cnn) (.slice na f.answers.length cna)) := fun o => HOD.out.below ((Below.refl _ _).alloc (Nat.le_refl _) o) t3
    have HBD : Hid (Below D w1 wb.drew) := Lib.hid hbw.drew
    have HBA : Hid (∀ o, Below D w1 (wb.drew.alloc o)) := fun o => hbw.drew.alloc (Nat.le_of_lt t3) o
    have HRD : Hid (Below wb.heap.size wb wb.drew) := Lib.hid (Below.refl _ _).drew
    have HRA : Hid (∀ o, Below wb.heap.size wb (wb.drew.alloc o)) := fun o => (Below.refl _ _).drew.alloc (Nat.le_refl _) o
    have n1 : ¬ D = wb.heap.size := by omega
    clear hbw
    go_cut [15, 16] (fun u15 u16 wx => ∃ (Z : Nat), u15 = .pointer (some ⟨Z, 0, none⟩) ∧ u16 = .int .i64 2 ∧ Below wb.heap.size wb wx)
    case first =>
      go_region_held3 (fun w' => w'.cell? ⟨D, 0, none⟩ = some (.slice nn f.nodes.length cnn) ∧ w'.cell? ⟨D, 1, none⟩ = some (.slice na f.answers.length cna))
        (first | exact ⟨s0, s1⟩ | exact ⟨t0, t1⟩ | exact ⟨((OF.out.other n1 0 _).other n1 1 _).1, ((OF.out.other n1 0 _).other n1 1 _).2.1⟩ | go_keep)
        (first | (go_at_call 19; refine (HP9.out _).mono ?_; rintro e w9 ⟨rfl, rfl⟩) | (go_at_call 22; refine (HOB.out _ _ _ (HFF.out _ (by first | exact HBD.out | exact HBA.out _))).mono ?_; rintro e w9 ⟨rfl, hb9⟩; have oF : OBx w9 D (.slice nn f.nodes.length cnn) (.slice na f.answers.length cna) := (by first | exact HOD.out.below hb9 HOD.out.2.2.2 | exact (HOA.out _).below hb9 (HOA.out _).2.2.2); have HBE : Hid (Below wb.heap.size wb w9) := (by first | exact HRD.out.trans (hb9.mono HRD.out.size) | exact (HRA.out _).trans (hb9.mono (HRA.out _).size)); have OF := Lib.hid oF; obtain ⟨s0, s1, sf, sz⟩ := oF; (try (have oG : OBx w9 wb.heap.size (.slice none 0 0) (.slice none 0 0) := (OBx.new wb.drew (.slice none 0 0) (.slice none 0 0)).below hb9 (OBx.new wb.drew (.slice none 0 0) (.slice none 0 0)).2.2.2; have OG := Lib.hid oG; obtain ⟨y0, y1, y2, y3⟩ := oG)); clear hb9))
      · go_wp2_with fail
        go_meet
        exact ⟨w9.heap.size, rfl, rfl, HBE.out.alloc HBE.out.size _⟩
      · go_wp2_with fail
        go_meet
        exact ⟨wb.heap.size, rfl, rfl, (HBE.out.setCell (Nat.le_refl _) _).setCell (Nat.le_refl _) _⟩
      · go_wp2_with fail
        go_meet
        exact ⟨wb.heap.size, rfl, rfl, (HBE.out.setCell (Nat.le_refl _) _).setCell (Nat.le_refl _) _⟩
    case rest =>
      obtain ⟨Z, rfl, rfl, hbx⟩ := hcut
      have AC2 := Lib.hid (AC.out.below hbx AC.out.2)
      have AB2 := Lib.hid (AB9.out.below hbx AB9.out.2)
      have HSa := Lib.hid (HS10.out.mono hbx fun _ _ h => h)
      have HSb := Lib.hid (HS11.out.mono hbx fun _ _ h => h)
      have HBf := Lib.hid (HB9.out.keep hbx).2.2.1
      obtain ⟨⟨p0, p1, p2, p3, p4⟩, hpz⟩ := AB2.out
      obtain ⟨⟨r0, r1, r2, r3, r4⟩, hrz⟩ := AC2.out
      clear hbx t0 t1 t2 t3 hsum n1
      go_wp2_with fail
      refine (kfsame_any A A _ _ _ HSa.out HSb.out).mono ?_; rintro e w12 ⟨r, rfl, hr, hb12⟩
      obtain rfl := hr rfl
      have HBz := Lib.hid (HBW1.out.trans ((HBf.out.trans (hb12.mono (Nat.le_trans (Nat.le_of_lt HD6.out) (Nat.le_of_lt hpz)))).mono HWD.out))
      clear hb12
      go_wp2_with fail
      go_ret
      exact ⟨rfl, HBz.out⟩
end Go.Proofs.Ytlhidbbphngpcaa
