/-
  tree.Opt: what is made less.
-/
import Derived.Test.YtlhidbbphngpcaaOptM
namespace Go.Proofs.Ytlhidbbphngpcaa
set_option linter.unusedVariables false
set_option linter.unusedSimpArgs false
open Go.ChangeShapes Go.WideShapes Go.ChangeAt Go.RowKit

theorem optAns_sub {f : Frs} {m : Bool} {x : Ans} (h : x ∈ optAns f m) : x ∈ f.answers := by
  unfold optAns at h
  cases m
  · simpa using h
  · simp only [if_true] at h
    obtain ⟨p, hp, rfl⟩ := List.mem_iff_getElem.1 h
    exact (mg_inv _ f.answers rfl).src p hp
/-- nodes and answers in a forest's box of the call's own. -/
def NdS (w1 wr : World) (O B : Nat) (vn va : Value) (ns : List Nod) (l : List (Ans × Value)) : Prop := AnG wr B va l ∧ wr.ownsRow B 61 5 vn ns.length (ns.flatMap encN) ∧ OBx wr O vn va ∧ Below O w1 wr ∧ O < B ∧ B ≤ wr.heap.size
theorem MgS.swap {w1 wr : World} {O B : Nat} {vz va : Value} {l l' : List (Ans × Value)} (h : MgS w1 wr O B vz l) (ha : AnG wr B va l') : MgS w1 ((wr.setCell ⟨O, 0, none⟩ (.slice none 0 0)).setCell ⟨O, 1, none⟩ va) O B va l' := by
  obtain ⟨h1, h2, h3, h4, h5⟩ := h
  refine ⟨(ha.mv fun c hc _ => Below.heap_setCell _ _ _ _ (by show c ≠ O; omega)).mv fun c hc _ => Below.heap_setCell _ _ _ _ (by show c ≠ O; omega), (h2.set0 _).set1 _, (h3.setCell (Nat.le_refl _) _).setCell (Nat.le_refl _) _, h4, ?_⟩
  rw [World.size_setCell, World.size_setCell]; exact h5
theorem MgS.nod {w1 wr : World} {O B : Nat} {vz vn : Value} {l : List (Ans × Value)} {ns : List Nod} (h : MgS w1 wr O B vz l) (ho : wr.ownsRow B 61 5 vn ns.length (ns.flatMap encN)) : NdS w1 (wr.setCell ⟨O, 0, none⟩ vn) O B vn vz ns l := by
  obtain ⟨h1, h2, h3, h4, h5⟩ := h
  refine ⟨h1.mv fun c hc _ => Below.heap_setCell _ _ _ _ (by show c ≠ O; omega), ownsRow_setCell_below (a := ⟨O, 0, none⟩) ho h4 _, h2.set0 _, h3.setCell (Nat.le_refl _) _, h4, ?_⟩
  rw [World.size_setCell]; exact h5
theorem NdS.keep {w1 wr w' : World} {O B : Nat} {vn va : Value} {ns : List Nod} {l : List (Ans × Value)} (h : NdS w1 wr O B vn va ns l) (hb : Below wr.heap.size wr w') : NdS w1 w' O B vn va ns l := by
  obtain ⟨h1, h0, h2, h3, h4, h5⟩ := h
  exact ⟨h1.mv fun c _ hc => hb.block c hc, own_mv h0 fun c _ hc => hb.block c hc, h2.below hb h2.2.2.2, h3.trans (hb.mono (by omega)), h4, Nat.le_trans h5 hb.size⟩
theorem NdS.nod {w1 wr : World} {O B : Nat} {vn va vm : Value} {ns ms : List Nod} {l : List (Ans × Value)} (h : NdS w1 wr O B vn va ns l) (ho : wr.ownsRow B 61 5 vm ms.length (ms.flatMap encN)) : NdS w1 (wr.setCell ⟨O, 0, none⟩ vm) O B vm va ms l := by
  obtain ⟨h1, _, h2, h3, h4, h5⟩ := h
  refine ⟨h1.mv fun c hc _ => Below.heap_setCell _ _ _ _ (by show c ≠ O; omega), ownsRow_setCell_below (a := ⟨O, 0, none⟩) ho h4 _, h2.set0 _, h3.setCell (Nat.le_refl _) _, h4, ?_⟩
  rw [World.size_setCell]; exact h5
theorem NdS.frsK {w1 wr w' : World} {O B : Nat} {vn va : Value} {ns : List Nod} {l : List (Ans × Value)} (h : NdS w1 wr O B vn va ns l) (hok : ∀ x ∈ l.map Prod.fst, AnO x) (h64 : ∀ n ∈ ns, N64 n) (k : ∀ c, B ≤ c → w'.heap[c]? = wr.heap[c]?) : FrsAt w' vn va ⟨ns, l.map Prod.fst⟩ := by
  obtain ⟨h1, h0, h2, h3, h4, h5⟩ := h
  exact ⟨slAt_of_own (enc := encN) (by omega) (fun _ => rfl) (fun x hx => ⟨rfl, h64 x hx⟩) (own_mv h0 fun c hc _ => k c hc), (h1.mv fun c hc _ => k c hc).at hok⟩
theorem NdS.frs {w1 wr : World} {O B R : Nat} {vn va u u' : Value} {ns : List Nod} {l : List (Ans × Value)} (h : NdS w1 wr O B vn va ns l) (hok : ∀ x ∈ l.map Prod.fst, AnO x) (h64 : ∀ n ∈ ns, N64 n) (hR : R < B) : FrsAt ((wr.setCell ⟨R, 0, none⟩ u).setCell ⟨R, 1, none⟩ u') vn va ⟨ns, l.map Prod.fst⟩ := by
  obtain ⟨h1, h0, h2, h3, h4, h5⟩ := h
  have h1' : AnG ((wr.setCell ⟨R, 0, none⟩ u).setCell ⟨R, 1, none⟩ u') B va l := (h1.mv fun c hc _ => Below.heap_setCell _ _ _ _ (by show c ≠ R; omega)).mv fun c hc _ => Below.heap_setCell _ _ _ _ (by show c ≠ R; omega)
  exact ⟨slAt_of_own (enc := encN) (by omega) (fun _ => rfl) (fun x hx => ⟨rfl, h64 x hx⟩) (ownsRow_setCell_below (a := ⟨R, 1, none⟩) (ownsRow_setCell_below (a := ⟨R, 0, none⟩) h0 hR _) hR _), h1'.at hok⟩
set_option maxRecDepth 100000 in
set_option maxHeartbeats 4000000 in
theorem opt_ok (f : Frs) (F : Int → Int) (hT : Tells f F) (hbd : ∀ n ∈ f.nodes, I64 n.bd) (vn va : Value) (wy : Int) (w : World) (hf : FrsAt w vn va f) (h0 : 0 ≤ wy) (h7 : wy ≤ 7) (zm zs zb : Int) (hzm : bits .and .i64 wy 1 = zm) (hzs : bits .and .i64 wy 2 = zs) (hzb : bits .and .i64 wy 4 = zb) :
    Calls Try.prog 22 #[.agg #[vn, va], .int .i64 wy] w fun e w' => ∃ g, OptIs f F (zm != 0) (zs != 0) (zb != 0) g ∧ (∀ n ∈ g.nodes, N64 n) ∧ ((g.nodes.length ≤ 8000 ∧ ∃ vn' va', e = .returned (.tuple #[.agg #[vn', va'], .int .i64 0]) ∧ FrsAt w' vn' va' g ∧ ∀ (G : Nat) (u u' : Value), G < w.heap.size → FrsAt ((w'.setCell ⟨G, 0, none⟩ u).setCell ⟨G, 1, none⟩ u') vn' va' g) ∨ (8000 < g.nodes.length ∧ e = .returned (.tuple #[.agg #[.slice none 0 0, .slice none 0 0], .int .i64 1]))) ∧ Below w.heap.size w w' := by
  obtain ⟨m, hm⟩ : ∃ m, m = (zm != 0) := ⟨_, rfl⟩
  obtain ⟨s, hs⟩ : ∃ s, s = (zs != 0) := ⟨_, rfl⟩
  obtain ⟨b, hb⟩ : ∃ b, b = (zb != 0) := ⟨_, rfl⟩
  rw [← hm, ← hs, ← hb]
  have HM := Lib.hid hm
  have HS := Lib.hid hs
  have HBb := Lib.hid hb
  clear hm hs hb
  obtain ⟨ao, cap, rfl, hl⟩ := hf.1.shape
  obtain ⟨bo, cap2, rfl, hl2⟩ := hf.2.shape
  have bw : Below w.heap.size w ((w.alloc (.cells #[.slice ao f.nodes.length cap, .slice bo f.answers.length cap2] 26)).alloc (.cells #[.slice none 0 0, .slice none 0 0] 26)) := below_alloc2 (Nat.le_refl _) _ _
  have HC : Hid (∀ (W : World), Below w.heap.size w W → Calls Try.prog 27 #[.agg #[.slice ao f.nodes.length cap, .slice bo f.answers.length cap2]] W fun e w' => e = .returned (.int .i64 0) ∧ Below W.heap.size W w') := fun W hb => by
    have := check_any f _ _ W (hf.mono (w' := W) hb)
    rw [hT.ok] at this
    exact this
  have hs0 := size_alloc w (.cells #[.slice ao f.nodes.length cap, .slice bo f.answers.length cap2] 26)
  have f1 := (OBx.new w (.slice ao f.nodes.length cap) (.slice bo f.answers.length cap2))
  have f2 := f1.below ((Below.refl _ _).alloc (Nat.le_refl _) (.cells #[.slice none 0 0, .slice none 0 0] 26)) f1.2.2.2
  have o1 := (OBx.new (w.alloc (.cells #[.slice ao f.nodes.length cap, .slice bo f.answers.length cap2] 26)) (.slice none 0 0) (.slice none 0 0))
  rw [hs0] at o1
  have O1 := Lib.hid o1
  have F1 := Lib.hid f2
  have BW := Lib.hid bw
  have HF := Lib.hid hf
  have HT := Lib.hid hT
  have HBD := Lib.hid hbd
  clear hf hl hl2 hs0 o1 bw f1 f2 hT hbd
  go_enter Try.func22, Try.ntmps22
  go_wp2_with fail
  refine (HC.out _ BW.out).mono ?_; rintro e w1 ⟨rfl, hb1⟩
  have O2 := Lib.hid (O1.out.below hb1 O1.out.2.2.2)
  have F2 := Lib.hid (F1.out.below hb1 F1.out.2.2.2)
  have HB := Lib.hid (BW.out.trans (hb1.mono (by have := BW.out.size; exact this)))
  clear hb1 O1 F1 HC BW
  obtain ⟨c0, c1, c2, c3⟩ := F2.out
  obtain ⟨h0', h8, h2, h3, h4⟩ := frs_good HT.out.ok
  have H2 := Lib.hid h2
  have H3 := Lib.hid h3
  have HA0 := Lib.hid (SlAt.mono (HF.out.2) HB.out (RAns.mono HB.out))
  have HANO := Lib.hid (fun x hx => anO_of HF.out.2 x hx)
  obtain ⟨ia, hia, hza0, hza1, hza2⟩ := info_parts info_ansZ
  clear h0' h8 h2 h3 h4
  go_wp2_with fail
  obtain ⟨W1, hW1⟩ : ∃ W1, W1 = w1.alloc (.cells #[.slice none 0 0, .slice none 0 0] 26) := ⟨_, rfl⟩
  have b11 : Below w1.heap.size w1 W1 := by rw [hW1]; exact (Below.refl _ _).alloc (Nat.le_refl _) _
  have oO : OBx W1 w1.heap.size (.slice none 0 0) (.slice none 0 0) := by rw [hW1]; exact OBx.new _ _ _
  have hs1 : W1.heap.size = w1.heap.size + 1 := by rw [hW1]; exact size_alloc _ _
  rw [← hW1]
  clear hW1
  have HA1 := Lib.hid (HA0.out.mono b11 (RAns.mono b11))
  obtain ⟨O, hO⟩ : ∃ O, O = w1.heap.size := ⟨_, rfl⟩
  rw [← hO] at oO hs1 c3 b11 ⊢
  have HB1 : Hid (Below w.heap.size w W1) := Lib.hid (HB.out.trans (b11.mono (by omega)))
  have HF1 := Lib.hid (F2.out.below (b11.mono (by omega)) c3)
  have HR1 := Lib.hid (O2.out.below b11 (by have := O2.out.2.2.2; omega))
  have hRO : w.heap.size + 1 < O := by have := O2.out.2.2.2; omega
  have HS1 := Lib.hid hs1
  have hS0 := Lib.hid (show MgS W1 W1 O (O + 1) (.slice none 0 0) [] from ⟨AnG.nil _ _, oO, Below.refl _ _, by omega, by omega⟩)
  have HWR : Hid (∀ wr, Below O W1 wr → Below w.heap.size w wr) := fun wr hb => HB1.out.trans (hb.mono (by omega))
  clear HA0 F2 O2 HB b11 oO c0 c1 c2 hs1 hO
  generalize haz : f.answers = az at *
  have HAZ := Lib.hid haz
  clear haz
  go_loopw [28] (fun t wr => ∃ (k : Nat) (l : List (Ans × Value)) (vz : Value), k ≤ az.length ∧ t = .int .i64 (k : Int) ∧ Hid (MgS W1 wr O (O + 1) vz l) ∧ Hid (l.map Prod.fst = az.take k)) (fun t _ => (az.length - intOf t).toNat)
  case atStart => exact ⟨0, [], _, by omega, rfl, hS0, rfl⟩
  case round =>
    obtain ⟨k, l, vz, hk, rfl, hS, hM⟩ := hrel
    obtain ⟨az2, cz, rfl⟩ := own_shape hS.out.1.1
    have hbr := hS.out.2.2.1
    have o1 := hS.out.2.1.2.1
    have h2000 := H2.out
    by_cases hlt : k < az.length
    · have hX : SlAt wr 5 (RAns wr) (.slice bo az.length cap2) az := by
        have := SlAt.mono HF.out.2 (HWR.out wr hbr) (RAns.mono (HWR.out wr hbr))
        rw [HAZ.out] at this; exact this
      obtain ⟨b1, q1, vo, e1, z1, ⟨c0, c1, c2, c3', c4⟩, ho, hnm, i1, i2⟩ := elemAns hX k hlt
      subst e1
      have hoff : az[k].offs.length ≤ 6 := (ansE_offs (H3.out k hlt)).1
      have hlen : l.length ≤ k := by
        have := fst_len hM.out
        rw [List.length_take] at this
        omega
      obtain ⟨ao, co, rfl, -⟩ := ho.shape
      have hki : (k : Int) < (az.length : Int) := by omega
      have HM1 : Hid (az.take (k + 1) = l.map Prod.fst ++ [az[k]]) := by
        show _ = _
        rw [hM.out, List.take_succ_eq_append_getElem hlt]
      generalize az[k] = A at *
      have hAA : Below wr.heap.size wr (wr.alloc (.cells #[.int .i64 A.ck.off, .bool A.ck.sav, .string A.ck.nm, .slice ao A.offs.length co, .int .i64 A.jump] 39)) := (Below.refl _ _).alloc (Nat.le_refl _) _
      have HBX := Lib.hid (AnBx.new wr A (.slice ao A.offs.length co))
      have HO2 := Lib.hid (ho.mono hAA fun _ _ h => h)
      have HSa := Lib.hid (hS.out.keep hAA)
      have HHa : Hid (O + 1 ≤ wr.heap.size) := Lib.hid hS.out.2.2.2.2
      clear hX ho hnm i1 i2 hbr
      go_upto_region 10 with (fail)
      generalize wr.alloc (.cells #[.int .i64 A.ck.off, .bool A.ck.sav, .string A.ck.nm, .slice ao A.offs.length co, .int .i64 A.jump] 39) = wb at *
      generalize wr.heap.size = T at *
      have HCL := Lib.hid (fun (W : World) (hb : Below wb.heap.size wb W) => clone_any A (.slice ao A.offs.length co) W (HO2.out.mono hb fun _ _ h => h) (by omega))
      obtain ⟨⟨b0, b1, b2, b3, b4⟩, hTz⟩ := HBX.out
      have o2 := HSa.out.2.1.2.1
      have HH4 : Hid (O + 1 ≤ wb.heap.size) := Lib.hid HSa.out.2.2.2.2
      have hl2 : l.length ≤ 2000 := by omega
      clear HBX HO2 o1 c0 c1 c2 c3' c4 hAA hM
      go_region_law (first | (refine step_append_lies _ (by rfl) _ _ _ (by rfl) (O + 1) 39 ia (.agg #[.int .i64 0, .bool false, .string ⟨#[]⟩, .slice none 0 0, .int .i64 0]) 5 64 Try.underlying24 hia hza0 hza1 hza2 rfl (by decide) (.slice az2 l.length cz) l.length (l.flatMap encW) (by rfl) (S5.out.1.1.alloc _) ⟨w5.heap.size, 0, none⟩ 1 1 (encW (A, Value.slice a5 A.offs.length c5)) (by rfl) (by rfl) (cells_at _ _ _ _ _ rfl rfl) (encW_one (A, Value.slice a5 A.offs.length c5) ⟨a5, A.offs.length, c5, rfl⟩) (by omega) (by unfold maxLen; omega) (by omega) (by rw [size_alloc]; have := HH5.out; omega) (w5.heap.size + 1) (size_alloc _ _) ?_; intro gg cap6 w6 hown1 hgrow hat hltg; obtain ⟨⟨z1, zf, zz⟩, SX, NX⟩ := S5.out.more (y := (A, Value.slice a5 A.offs.length c5)) O5.out hown1 hgrow; have SX := Lib.hid SX; clear hown1 hgrow hat NX) | (go_simp; refine (HCL.out _ (Below.refl _ _).drew).mono ?_; rintro r5 w5 ⟨v5, rfl, ho5, hb5⟩; obtain ⟨a5, c5, rfl⟩ := own_shape ho5; have S5 := Lib.hid (HSa.out.keep (show Below wb.heap.size wb w5 from (Below.refl _ wb).drew.trans hb5)); have O5 := Lib.hid (ownsRow_base (show O + 1 ≤ wb.drew.heap.size from HH4.out) ho5); have HH5 := Lib.hid (Nat.le_trans HH4.out hb5.size); have y1 := S5.out.2.1.2.1; have yz := S5.out.2.1.2.2.2; clear hb5 ho5))
      all_goals
        go_wp2_with fail
        go_roundw
        case rel => exact ⟨k + 1, l ++ [(A, Value.slice a5 A.offs.length c5)], _, by omega, by go_num, SX.out, by show _ = _; rw [HM1.out, List.map_append]; rfl⟩
        case measure => simp [intOf]; omega
    · have hkx : k = az.length := by omega
      have HMA : Hid (l.map Prod.fst = az) := by
        show _ = _
        rw [hM.out, hkx, List.take_of_length_le (Nat.le_refl _)]
      obtain ⟨x0, x1, x2, x3⟩ := HF1.out.below hbr c3
      have hlw : w.heap.size < wr.heap.size := x3
      have HP : Hid (∀ W, Below w.heap.size w W → Calls Try.prog 50 #[.agg #[.slice ao f.nodes.length cap, .slice bo az.length cap2]] W fun e w' => ∃ v', e = .returned v' ∧ w'.ownsRow W.heap.size 83 2 v' (pcsOf f.nodes F).length ((pcsOf f.nodes F).flatMap encP) ∧ Below W.heap.size W w') := fun W hb => pieces_any f F HT.out _ _ W (HF.out.mono hb)
      have HHW := Lib.hid (HWR.out wr hbr)
      have HMX : Hid (∀ (v : Value) (W : World), Below w.heap.size w W → SlAt W 2 RPc v (pcsOf f.nodes F) → Calls Try.prog 51 #[.agg #[.slice ao f.nodes.length cap, .slice bo az.length cap2], v] W fun e w' => ∃ va' vp' l, e = .returned (.tuple #[.agg #[.slice none 0 0, va'], vp']) ∧ AnG w' W.heap.size va' l ∧ l.map Prod.fst = (mg az).1 ∧ w'.ownsRow W.heap.size 83 2 vp' (optP f F true).length ((optP f F true).flatMap encP) ∧ Below W.heap.size W w') := fun v W hb hv => by
        have := merged_any f F HT.out (.slice ao f.nodes.length cap) (.slice bo az.length cap2) v W (HF.out.mono hb) hv
        rw [HAZ.out] at this
        exact this
      clear hkx hM o1 hbr
      go_wp2_with fail
      clear hlt
      refine (HP.out _ HHW.out).mono ?_; rintro e w3 ⟨vl, rfl, hol, hb3⟩
      have HOL := Lib.hid (show SlAt w3 2 RPc vl (pcsOf f.nodes F) from slAt_of_own (by omega) (fun _ => rfl) (fun _ _ => rfl) hol)
      have HHX := Lib.hid (HHW.out.trans (hb3.mono (by have := HHW.out.size; exact this)))
      have HS3 := Lib.hid (hS.out.keep hb3)
      obtain ⟨x4, x5, x6, x7⟩ := HF1.out.below HS3.out.2.2.1 c3
      clear hol hb3 x0 x1 x2 x3 hlw hS
      go_upto_if 44 with (fail)
      go_cut [10] (fun kl wx => ∃ (vz : Value) (l2 : List (Ans × Value)), Hid (SlAt wx 2 RPc kl (optP f F m)) ∧ Hid (MgS W1 wx O (O + 1) vz l2) ∧ Hid (l2.map Prod.fst = optAns f m))
      case first =>
        by_cases hz : zm = 0
        · subst hz
          have hmf : m = false := by rw [HM.out]; rfl
          have HE1 : Hid (optP f F m = pcsOf f.nodes F) := by show _ = _; rw [hmf]; simp [optP]
          have HE2 : Hid (optAns f m = az) := by show _ = _; rw [hmf, ← HAZ.out]; simp [optAns]
          clear hmf
          go_wp2_with fail
          go_meet
          exact ⟨_, l, by rw [HE1.out]; exact HOL, HS3.out, by rw [HE2.out]; exact HMA.out⟩
        · have hzt : (zm != 0) = true := by rw [bne_iff_ne]; exact hz
          clear hz
          have o2 := HS3.out.2.1
          obtain ⟨y0, y1, y2, y3⟩ := o2
          go_wp2_with fail
          refine (HMX.out _ _ HHX.out HOL.out).mono ?_; rintro e w4 ⟨va', vp', l', rfl, hg4, hf4, hp4, hb4⟩
          obtain ⟨a5, c5, rfl⟩ := own_shape hg4.1
          obtain ⟨a6, c6, rfl⟩ := own_shape hp4
          have HP4 := Lib.hid hp4
          have HG4 := Lib.hid hg4
          have HF4 := Lib.hid hf4
          have HS4 := Lib.hid (HS3.out.keep hb4)
          have o4 := HS4.out.2.1
          obtain ⟨y4, y5, y6, y7⟩ := o4
          have HO3 : Hid (O + 1 ≤ w3.heap.size) := Lib.hid HS3.out.2.2.2.2
          clear hp4 hg4 hf4 hb4
          go_wp2_with fail
          go_meet
          refine ⟨_, l', ?_, HS4.out.swap (AnG.base HO3.out HG4.out), ?_⟩
          · show SlAt _ 2 RPc _ _
            rw [HM.out, hzt]
            exact slAt_of_own (by omega) (fun _ => rfl) (fun _ _ => rfl) (ownsRow_setCell_below (a := ⟨O, 1, none⟩) (ownsRow_setCell_below (a := ⟨O, 0, none⟩) HP4.out (by show O < _; have := HO3.out; omega) _) (by show O < _; have := HO3.out; omega) _)
          · show _ = _
            rw [HF4.out, ← HAZ.out, HM.out, hzt]; simp [optAns]
      case rest =>
        obtain ⟨vz, l2, HP5, HS5, HF5⟩ := hcut
        have HX0 := Lib.hid (fun x (hx : x ∈ optAns f m) => optAns_sub (m := m) hx)
        have HGD := Lib.hid (fun b => optN_ok HT.out m b)
        have HPS := Lib.hid (optP_pos f F m)
        have HP64 := Lib.hid (optP_64 HT.out HBD.out m)
        have HP80 := Lib.hid (optP_9000 HT.out m)
        clear HP HMX HOL HS3 x4 x5 x6 x7 HHX HHW HMA h2000 hk HA1
        obtain ⟨PP, hPP⟩ : ∃ PP, PP = optP f F m := ⟨_, rfl⟩
        rw [← hPP] at HP5 HGD HPS HP64 HP80
        have HPP := Lib.hid hPP
        clear hPP
        have HBL : Hid (∀ (v : Value) (W : World), SlAt W 2 RPc v PP → Calls Try.prog 52 #[v, .slice none 0 0] W fun e w' => ∃ a c z, e = .returned (.tuple #[.slice a (optN true PP).length c, .int .i64 z]) ∧ w'.ownsRow W.heap.size 61 5 (.slice a (optN true PP).length c) (optN true PP).length ((optN true PP).flatMap encN) ∧ Below W.heap.size W w') := fun v W hv => by
          refine (balanced_any W.heap.size W PP.length PP [] v (.slice none 0 0) W HPS.out (Nat.le_refl _) (fun W' hb => hv.mono hb fun _ _ h => h) (Below.refl _ _) (Nat.le_refl _) (World.ownsRow_nil _ _ _ _) (by have := HP80.out; simp only [List.length_nil]; omega)).mono ?_
          rintro e w' ⟨nv', rfl, ho, hb⟩
          have e : ([] : List Nod) ++ balF PP.length PP ([] : List Nod).length = optN true PP := by simp [optN]
          rw [e] at ho ⊢
          obtain ⟨a, c, rfl⟩ := own_shape ho
          exact ⟨a, c, _, rfl, ho, hb⟩
        have HCN : Hid (∀ (v : Value) (W : World), SlAt W 2 RPc v PP → Calls Try.prog 39 #[v] W fun e w' => ∃ a c, e = .returned (.slice a (optN false PP).length c) ∧ w'.ownsRow W.heap.size 61 5 (.slice a (optN false PP).length c) (optN false PP).length ((optN false PP).flatMap encN) ∧ Below W.heap.size W w') := fun v W hv => by
          refine (chain_any v PP W hv HPS.out (by have := HP80.out; omega)).mono ?_
          rintro e w' ⟨nv', rfl, ho, hb⟩
          have e : chN PP = optN false PP := by simp [optN]
          rw [e] at ho
          obtain ⟨a, c, rfl⟩ := own_shape ho
          exact ⟨a, c, rfl, ho, hb⟩
        have HSH : Hid (∀ (v : Value) (W : World) (b : Bool), SlAt W 5 RNod v (optN b PP) → Calls Try.prog 53 #[v] W fun e w' => ∃ a c out now, e = .returned (.slice a out.length c) ∧ w'.ownsRow W.heap.size 61 5 (.slice a out.length c) out.length (out.flatMap encN) ∧ ShI (optN b PP) (optN b PP).length out now ∧ (∀ n ∈ out, N64 n) ∧ Below W.heap.size W w') := fun v W b hv => by
          have hl := optN_len b HPS.out
          have hp := HPS.out
          have h8 := HP80.out
          refine (shared_any _ _ v W hv (HGD.out b) (by omega) (by omega)).mono ?_
          rintro e w' ⟨v', out, now, rfl, ho, h1, h2, hb⟩
          obtain ⟨a, c, rfl⟩ := own_shape ho
          exact ⟨a, c, out, now, rfl, ho, h1, h2, hb⟩
        have HN64 := Lib.hid (fun b => optN_64 b HPS.out (by have := HP80.out; omega) HP64.out)
        clear HPS HP64 HP80 HGD
        have o5 := HS5.out.2.1
        obtain ⟨y0, y1, y2, y3⟩ := o5
        obtain ⟨a2, c2, rfl⟩ := own_shape HS5.out.1.1
        clear HS1 hS0 H3 H2 HWR
        go_upto_if 53 with (fail)
        go_cut [] (fun wx => ∃ (vn : Value), Hid (NdS W1 wx O (O + 1) vn (.slice a2 l2.length c2) (optN b PP) l2))
        case first =>
          by_cases hz : zb = 0
          · subst hz
            go_wp2_with fail
            refine (HCN.out _ _ HP5.out).mono ?_; rintro e w4 ⟨a5, c5, rfl, ho4, hb4⟩
            have HS6 := Lib.hid (HS5.out.keep hb4)
            have HO6 := Lib.hid (ownsRow_base HS5.out.2.2.2.2 ho4)
            have o6 := HS6.out.2.1
            obtain ⟨y4, y5, y6, y7⟩ := o6
            clear ho4 hb4
            go_wp2_with fail
            go_meet
            have hbf : b = false := by rw [HBb.out]; rfl
            exact ⟨_, by rw [hbf]; exact HS6.out.nod HO6.out⟩
          · have hzt : (zb != 0) = true := by rw [bne_iff_ne]; exact hz
            clear hz
            go_wp2_with fail
            refine (HBL.out _ _ HP5.out).mono ?_; rintro e w4 ⟨a5, c5, z5, rfl, ho4, hb4⟩
            have HS6 := Lib.hid (HS5.out.keep hb4)
            have HO6 := Lib.hid (ownsRow_base HS5.out.2.2.2.2 ho4)
            have o6 := HS6.out.2.1
            obtain ⟨y4, y5, y6, y7⟩ := o6
            clear ho4 hb4
            go_wp2_with fail
            go_meet
            exact ⟨_, by rw [HBb.out, hzt]; exact HS6.out.nod HO6.out⟩
        case rest =>
          obtain ⟨vn, HS7⟩ := hcut
          have h8 : (optN b PP).length ≤ 8000 ∨ 8000 < (optN b PP).length := by omega
          obtain ⟨NS, hNS⟩ : ∃ NS, NS = optN b PP := ⟨_, rfl⟩
          have HNS := Lib.hid hNS
          rw [← hNS] at HS7 h8
          obtain ⟨a7, c7, rfl⟩ := own_shape HS7.out.2.1
          have HW0 : Hid (∀ n ∈ NS, N64 n) := fun n hn => HN64.out b n (by rw [← HNS.out]; exact hn)
          clear hNS HBL HCN y0 y1 y2 y3 HN64
          have HXO : Hid (∀ x ∈ l2.map Prod.fst, AnO x) := fun x hx => HANO.out x (by rw [← HAZ.out]; exact HX0.out x (by rw [← HF5.out]; exact hx))
          by_cases hz : zs = 0
          · subst hz
            have HG : Hid (OptIs f F m s b ⟨NS, l2.map Prod.fst⟩) := ⟨HF5.out, by have : s = false := by { rw [HS.out]; rfl }; rw [if_neg (by simp [this])]; show NS = _; rw [HNS.out, HPP.out]⟩
            have HS8 := HS7
            have HW := HW0
            clear h8
            have HBE := Lib.hid (HB1.out.trans (HS8.out.2.2.2.1.mono (show w.heap.size ≤ O by omega)))
            obtain ⟨u0, u1, u2, u3⟩ := HS8.out.2.2.1
            obtain ⟨r0, r1, r2, r3⟩ := HR1.out.below HS8.out.2.2.2.1 hRO
            have z5 : ¬ w.heap.size + 1 = O := by omega
            have z6 : ¬ O = w.heap.size + 1 := by omega
            rcases Nat.lt_or_ge 8000 NS.length with hgt | hle
            · have hlI : (8000 : Int) < (NS.length : Int) := by omega
              go_wp2_with fail
              refine bodyPost_ret (v := .tuple #[.agg #[.slice none 0 0, .slice none 0 0], .int .i64 1]) (by simp [results, Try.results22, go_sem, r0, r1, r3]) rfl ⟨⟨NS, l2.map Prod.fst⟩, HG.out, HW.out, .inr ⟨hgt, rfl⟩, ?_⟩
              exact (HBE.out.setCell (by show w.heap.size ≤ w.heap.size + 1; omega) _).setCell (by show w.heap.size ≤ w.heap.size + 1; omega) _
            · have hlI : ¬ (8000 : Int) < (NS.length : Int) := by omega
              go_wp2_with fail
              refine bodyPost_ret (v := .tuple #[.agg #[(.slice a7 NS.length c7), .slice a2 l2.length c2], .int .i64 0]) (by simp [results, Try.results22, go_sem, r0, r1, r3, u0, u1, u3, z5, z6]) rfl ⟨⟨NS, l2.map Prod.fst⟩, HG.out, HW.out, .inl ⟨hle, _, _, rfl, HS8.out.frs HXO.out HW.out (by omega), fun G u u' hG => HS8.out.frsK HXO.out HW.out (fun c hc => (Below.heap_setCell _ _ _ _ (by show c ≠ G; omega)).trans ((Below.heap_setCell _ _ _ _ (by show c ≠ G; omega)).trans ((Below.heap_setCell _ _ _ _ (by show c ≠ w.heap.size + 1; omega)).trans (Below.heap_setCell _ _ _ _ (by show c ≠ w.heap.size + 1; omega)))))⟩, ?_⟩
              exact (HBE.out.setCell (by show w.heap.size ≤ w.heap.size + 1; omega) _).setCell (by show w.heap.size ≤ w.heap.size + 1; omega) _
          · have hzt : (zs != 0) = true := by rw [bne_iff_ne]; exact hz
            have HSt : Hid (s = true) := by show _ = _; rw [HS.out, hzt]
            clear hz h8
            have HSA : Hid (SlAt wc 5 RNod (.slice a7 NS.length c7) (optN b PP)) := by
              have := HS7.out.2.1
              rw [HNS.out] at this ⊢
              exact slAt_of_own (enc := encN) (by omega) (fun _ => rfl) (fun x hx => ⟨rfl, HW0.out x (by rw [HNS.out]; exact hx)⟩) this
            obtain ⟨u0, u1, u2, u3⟩ := HS7.out.2.2.1
            go_wp2_with fail
            refine (HSH.out _ _ b HSA.out).mono ?_; rintro e w4 ⟨a5, c5, ms, now, rfl, ho4, hsi, hm64, hb4⟩
            have HW := Lib.hid hm64
            have HSI := Lib.hid hsi
            have HS6 := Lib.hid (HS7.out.keep hb4)
            have HO6 := Lib.hid (ownsRow_base HS7.out.2.2.2.2.2 ho4)
            have HS8 := Lib.hid (HS6.out.nod HO6.out)
            have HG : Hid (OptIs f F m s b ⟨ms, l2.map Prod.fst⟩) := ⟨HF5.out, by rw [if_pos HSt.out, ← HPP.out]; exact ⟨now, HSI.out⟩⟩
            clear ho4 hb4 hsi hm64 u0 u1 u2 u3
            have HBE := Lib.hid (HB1.out.trans (HS8.out.2.2.2.1.mono (show w.heap.size ≤ O by omega)))
            obtain ⟨u0, u1, u2, u3⟩ := HS6.out.2.2.1
            obtain ⟨r0, r1, r2, r3⟩ := HR1.out.below HS6.out.2.2.2.1 hRO
            have z5 : ¬ w.heap.size + 1 = O := by omega
            have z6 : ¬ O = w.heap.size + 1 := by omega
            rcases Nat.lt_or_ge 8000 ms.length with hgt | hle
            · have hlI : (8000 : Int) < (ms.length : Int) := by omega
              go_wp2_with fail
              refine bodyPost_ret (v := .tuple #[.agg #[.slice none 0 0, .slice none 0 0], .int .i64 1]) (by simp [results, Try.results22, go_sem, r0, r1, r3]) rfl ⟨⟨ms, l2.map Prod.fst⟩, HG.out, HW.out, .inr ⟨hgt, rfl⟩, ?_⟩
              exact (HBE.out.setCell (by show w.heap.size ≤ w.heap.size + 1; omega) _).setCell (by show w.heap.size ≤ w.heap.size + 1; omega) _
            · have hlI : ¬ (8000 : Int) < (ms.length : Int) := by omega
              go_wp2_with fail
              refine bodyPost_ret (v := .tuple #[.agg #[(.slice a5 ms.length c5), .slice a2 l2.length c2], .int .i64 0]) (by simp [results, Try.results22, go_sem, r0, r1, r3, u0, u1, u3, z5, z6]) rfl ⟨⟨ms, l2.map Prod.fst⟩, HG.out, HW.out, .inl ⟨hle, _, _, rfl, HS8.out.frs HXO.out HW.out (by omega), fun G u u' hG => HS8.out.frsK HXO.out HW.out (fun c hc => (Below.heap_setCell _ _ _ _ (by show c ≠ G; omega)).trans ((Below.heap_setCell _ _ _ _ (by show c ≠ G; omega)).trans ((Below.heap_setCell _ _ _ _ (by show c ≠ w.heap.size + 1; omega)).trans (Below.heap_setCell _ _ _ _ (by show c ≠ w.heap.size + 1; omega)))))⟩, ?_⟩
              exact (HBE.out.setCell (by show w.heap.size ≤ w.heap.size + 1; omega) _).setCell (by show w.heap.size ≤ w.heap.size + 1; omega) _
end Go.Proofs.Ytlhidbbphngpcaa
