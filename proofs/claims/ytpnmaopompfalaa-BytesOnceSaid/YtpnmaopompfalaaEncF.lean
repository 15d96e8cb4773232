/-
  A program as bytes, by the document: BytesOf.
-/
import Derived.Test.YtpnmaopompfalaaEncD
import Derived.Test.YtpnmaopompfalaaEncE
namespace Go.Proofs.Ytpnmaopompfalaa
set_option linter.unusedVariables false
set_option linter.unusedSimpArgs false
open Go.ChangeShapes Go.WideShapes Go.ChangeAt Go.RowKit

theorem zb_0 : zb 0 = [0] := sv_small (u := 0) (by decide)
theorem zb_1 : zb 1 = [2] := sv_small (u := 2) (by decide)
theorem zb_pos (n : Int) : 0 < (zb n).length := by
  unfold zb
  by_cases h : zz n < 128
  · rw [sv_small h]; simp
  · rw [sv_big (by omega)]; simp
set_option maxRecDepth 100000 in
set_option maxHeartbeats 2000000 in
theorem bytesOf_bad (p : Prg) (vc vp va : Value) (w : World) (hp : PrgAt w vc vp va p) {a b c : Int} (h : verE p = (a, b, c)) (hc : c ≠ 0) :
    Calls Try.prog 48 #[.agg #[vc, vp, va]] w fun e w' => e = .returned (.tuple #[.slice none 0 0, .int .i64 c]) ∧ Below w.heap.size w w' := by
  have HP := Lib.hid hp
  have HV := Lib.hid h
  have hne : (c != 0) = true := by rw [bne_iff_ne]; exact hc
  have bw : Below w.heap.size w (w.alloc (.cells #[vc, vp, va] 58)) := (Below.refl _ _).alloc (Nat.le_refl _) _
  clear hp h hc
  go_enter Try.func48, Try.ntmps48
  go_wp2_with fail
  refine (verifyOf_any p vc vp va _ (HP.out.mono bw) HV.out).mono ?_; rintro e w1 ⟨rfl, hb1⟩
  go_wp2
  go_ret2
  exact ⟨rfl, below_in hb1⟩
set_option maxRecDepth 100000 in
set_option maxHeartbeats 2000000 in
theorem encodeB_bad (p : Prg) (vc vp va : Value) (w : World) (hp : PrgAt w vc vp va p) {a b c : Int} (h : verE p = (a, b, c)) (hc : c ≠ 0) :
    Calls Try.prog 47 #[.agg #[vc, vp, va]] w fun e w' => e = .returned (.tuple #[.slice none 0 0, .int .i64 c]) ∧ Below w.heap.size w w' := by
  have HP := Lib.hid hp
  have HV := Lib.hid h
  have hne : (c != 0) = true := by rw [bne_iff_ne]; exact hc
  have bw : Below w.heap.size w (w.alloc (.cells #[vc, vp, va] 58)) := (Below.refl _ _).alloc (Nat.le_refl _) _
  clear hp h hc
  go_enter Try.func47, Try.ntmps47
  go_wp2_with fail
  refine (verify_any p vc vp va _ (HP.out.mono bw) HV.out).mono ?_; rintro e w1 ⟨rfl, hb1⟩
  go_wp2
  go_ret2
  exact ⟨rfl, below_in hb1⟩
set_option maxRecDepth 100000 in
set_option maxHeartbeats 8000000 in
theorem bytesOf_ok (p : Prg) (vc vp va : Value) (w : World) (hp : PrgAt w vc vp va p) {x0 y0 : Int} (h : verE p = (x0, y0, 0)) :
    Calls Try.prog 48 #[.agg #[vc, vp, va]] w fun e w' => ∃ v, e = .returned (.tuple #[v, .int .i64 0]) ∧ w'.ownsRow w.heap.size 5 1 v (prgB p).length ((prgB p).flatMap encB) ∧ Below w.heap.size w w' := by
  obtain ⟨hg, _⟩ := ver0 h
  obtain ⟨g0, g1, g2, g3, g4, g5⟩ := prg_good hg
  obtain ⟨i0, hi, hz0, hz1, hz2⟩ := info_parts info_byte
  obtain ⟨ac, cc, rfl, lc⟩ := hp.1.shape
  obtain ⟨aq, cq, rfl, lq⟩ := hp.2.1.shape
  obtain ⟨aa, ca, rfl, la⟩ := hp.2.2.shape
  have hI64 : ∀ x ∈ p.code, I64 x.n := fun x hx => by
    obtain ⟨cs, _, _, hn⟩ := hp.1.all _ hx
    exact hn
  have hP64 : ∀ x ∈ p.pool, I64 x := ints64 hp.2.1
  have hA64 : ∀ x ∈ p.answers, I64 x.ck.off ∧ I64 x.jump ∧ ∀ y ∈ x.offs, I64 y := fun x hx => by
    obtain ⟨cs, vo, _, hv, h1, h2, _⟩ := hp.2.2.all _ hx
    exact ⟨h1, h2, ints64 hv⟩
  have hAE : ∀ x ∈ p.answers, ansE x = 0 := fun x hx => by
    obtain ⟨i, hi, rfl⟩ := List.mem_iff_getElem.1 hx
    exact g4 i hi
  have z1 := zb_len (i64_nat p.code.length (by omega))
  have z2 := zb_len (i64_nat p.pool.length (by omega))
  have z3 := zb_len (i64_nat p.answers.length (by omega))
  have L1 : (prg1 p).length ≤ 13 := by unfold prg1; simp; omega
  have F1 : ∀ k, ((p.code.take k).flatMap enI).length ≤ p.code.length * 11 := fun k => take_le _ k fun x hx => enI_le (hI64 x hx)
  have F2 : ∀ k, ((p.pool.take k).flatMap zb).length ≤ p.pool.length * 10 := fun k => take_le _ k fun x hx => zb_len (hP64 x hx)
  have F3 : ∀ k, ((p.answers.take k).flatMap enA).length ≤ p.answers.length * 134 := fun k => take_le _ k fun x hx => (ansL (hAE x hx) (hA64 x hx).1 (hA64 x hx).2.1 (hA64 x hx).2.2).2.2
  have L2 : (prg2 p).length ≤ 100000 := by
    have := F1 p.code.length
    rw [List.take_length] at this
    unfold prg2; simp only [List.length_append]; omega
  have L3 : (prg3 p).length ≤ 200000 := by
    have := F2 p.pool.length
    rw [List.take_length] at this
    unfold prg3; simp only [List.length_append]; omega
  have G1 := Lib.hid F1
  have G2 := Lib.hid F2
  have G3 := Lib.hid F3
  have HI := Lib.hid hI64
  have HP6 := Lib.hid hP64
  have HA6 := Lib.hid hA64
  have HAE := Lib.hid hAE
  have HN := Lib.hid (fun i (hi : i < p.code.length) => (ins_n8 hg hi).1)
  have HP := Lib.hid hp
  have HV := Lib.hid h
  have hcl : (p.code.length : Int) ≤ 8000 := by omega
  have hpl : (p.pool.length : Int) ≤ 2000 := by omega
  have hal : (p.answers.length : Int) ≤ 2000 := by omega
  have HL1 := Lib.hid L1
  have HL2 := Lib.hid L2
  have HL3 := Lib.hid L3
  have HC6 := Lib.hid (i64_nat p.code.length (by omega))
  have HP66 := Lib.hid (i64_nat p.pool.length (by omega))
  have HA66 := Lib.hid (i64_nat p.answers.length (by omega))
  have bw : Below w.heap.size w (w.alloc (.cells #[.slice ac p.code.length cc, .slice aq p.pool.length cq, .slice aa p.answers.length ca] 58)) := (Below.refl _ _).alloc (Nat.le_refl _) _
  have hs := size_alloc w (.cells #[.slice ac p.code.length cc, .slice aq p.pool.length cq, .slice aa p.answers.length ca] 58)
  have b0 : ∀ j, (w.alloc (.cells #[.slice ac p.code.length cc, .slice aq p.pool.length cq, .slice aa p.answers.length ca] 58)).cell? ⟨w.heap.size, j, none⟩ = #[.slice ac p.code.length cc, .slice aq p.pool.length cq, .slice aa p.answers.length ca][j]? := fun j => World.cell?_alloc_at (w := w) _ _ w.heap.size j rfl
  have HS := Lib.hid hs
  have HB0 := Lib.hid b0
  clear hp h hg g0 g1 g2 g3 g4 g5 lc lq la hI64 hP64 hA64 hAE z1 z2 z3 L1 L2 L3 F1 F2 F3 hs b0
  go_enter Try.func48, Try.ntmps48
  go_wp2_with fail
  refine (verifyOf_any p _ _ _ _ (HP.out.mono bw) HV.out).mono ?_; rintro e w1 ⟨rfl, hb1⟩
  have hz : w.heap.size < (w.alloc (.cells #[.slice ac p.code.length cc, .slice aq p.pool.length cq, .slice aa p.answers.length ca] 58)).heap.size := by rw [HS.out]; omega
  have hzb := Nat.lt_of_lt_of_le hz hb1.size
  have q0 : w1.cell? ⟨w.heap.size, 0, none⟩ = some (.slice ac p.code.length cc) := (hb1.cell (p := ⟨w.heap.size, 0, none⟩) hz).trans (HB0.out 0)
  have q1 : w1.cell? ⟨w.heap.size, 1, none⟩ = some (.slice aq p.pool.length cq) := (hb1.cell (p := ⟨w.heap.size, 1, none⟩) hz).trans (HB0.out 1)
  have q2 : w1.cell? ⟨w.heap.size, 2, none⟩ = some (.slice aa p.answers.length ca) := (hb1.cell (p := ⟨w.heap.size, 2, none⟩) hz).trans (HB0.out 2)
  have hw1 := bw.trans (hb1.mono bw.size)
  have HP1 := Lib.hid (HP.out.mono hw1)
  have HR0 : Hid (RwB (w1.alloc (.cells #[.int .u8 115, .int .u8 100, .int .u8 49] 5)) w1.heap.size (.slice (some ⟨w1.heap.size, 0, none⟩) 3 3) [115, 100, 49]) := World.ownsRow_lit w1 #[.int .u8 115, .int .u8 100, .int .u8 49] 3 (Nat.le_refl _) (by decide) rfl
  have hb0 : Below w1.heap.size w1 (w1.alloc (.cells #[.int .u8 115, .int .u8 100, .int .u8 49] 5)) := (Below.refl _ _).alloc (Nat.le_refl _) _
  have hzz : w1.heap.size ≤ (w1.alloc (.cells #[.int .u8 115, .int .u8 100, .int .u8 49] 5)).heap.size := hb0.size
  have p00 := (hb0.cell (p := ⟨w.heap.size, 0, none⟩) hzb).trans q0
  have hz0b := Nat.lt_of_lt_of_le hzb hb0.size
  clear hb1 HS HB0 hz bw HP
  obtain ⟨B, hB⟩ : ∃ B, B = w1.heap.size := ⟨_, rfl⟩
  have hB1 : B ≤ w1.heap.size := Nat.le_of_eq hB
  have hzB : w.heap.size < B := by omega
  have HBe := Lib.hid hB
  have HR0' : Hid (RwB (w1.alloc (.cells #[.int .u8 115, .int .u8 100, .int .u8 49] 5)) B (.slice (some ⟨w1.heap.size, 0, none⟩) 3 3) [115, 100, 49]) := by show RwB _ _ _ _; rw [hB]; exact HR0.out
  have hb0' : Below B w1 (w1.alloc (.cells #[.int .u8 115, .int .u8 100, .int .u8 49] 5)) := by rw [hB]; exact hb0
  clear hB HR0 hb0
  go_wp2_with fail
  refine (sevens_any p.code.length _ HC6.out).mono ?_; rintro e wa1 ⟨u1, rfl, hu1, hba1⟩
  obtain ⟨au1, cu1, rfl⟩ := own_shape hu1
  have HU1 := Lib.hid hu1
  have HO1 := Lib.hid (HR0'.out.up hba1)
  have hbb1 := hb0'.trans (hba1.mono (by have := hb0'.size; omega))
  clear hu1
  go_upto_region 6 with (at_builtin; refine wpList_append_rows rfl _ _ rfl B _ i0 hi hz0 hz1 hz2 _ _ [115, 100, 49] (zb p.code.length) rfl HO1.out rfl HU1.out (zb_pos _) (by have := zb_len HC6.out; simp; omega) (by have := hbb1.size; omega) ?_; intro v1 wb1 L1 hL1 hR1 hK1 hB1; have HKx1 := Lib.hid ((kp_below (P := B) hba1).trans hK1); obtain ⟨ab1, cb1, rfl⟩ := hR1.shape; have HR1 := Lib.hid hR1; have HLx1 := Lib.hid hL1; have hbc1 := hbb1.trans hB1; clear hR1 hK1 hB1 hL1 hba1)
  have HLc : Hid (L1 = prg1 p ++ (p.code.take 0).flatMap enI) := by show _ = _; rw [HLx1.out, List.take_zero, List.flatMap_nil, List.append_nil]; rfl
  clear p00 hz0b hzz hbb1
  go_wp2
  go_loopw [7, 8] (fun out i wr => ∃ (k : Nat) (L : List Int), k ≤ p.code.length ∧ i = .int .i64 k ∧ Hid (L = prg1 p ++ (p.code.take k).flatMap enI) ∧ Hid (RwB wr B out L) ∧ Below B w1 wr) (fun _ i _ => (p.code.length - intOf i).toNat)
  case atStart => exact ⟨0, L1, by omega, rfl, HLc, HR1, hbc1⟩
  case round =>
    obtain ⟨k, L, hk, rfl, hL, hR, hbr⟩ := hrel
    obtain ⟨av, cv, rfl⟩ := hR.out.shape
    have r0 := (hbr.cell (p := ⟨w.heap.size, 0, none⟩) hzB).trans q0
    have r1 := (hbr.cell (p := ⟨w.heap.size, 1, none⟩) hzB).trans q1
    have hzr : w.heap.size < wr.heap.size := by have := hbr.size; omega
    have hBr : B ≤ wr.heap.size := by have := hbr.size; omega
    by_cases hlt : k < p.code.length
    · obtain ⟨b, off, rfl, hbb, ⟨c0, c1⟩, _, _⟩ := elemIns HP1.out.1 k hlt
      have d0 := (hbr.cell (p := ⟨b, off + k * 2, none⟩) (by show b < B; rw [HBe.out]; exact hbb)).trans c0
      have hwop := op_wrap (HN.out k hlt)
      have hn6 := HI.out _ (List.getElem_mem hlt)
      have htk := take_flat (f := enI) p.code k hlt
      have hlen := G1.out k
      generalize p.code[k] = x at *
      obtain ⟨op, n⟩ := x
      dsimp only at d0 c0 c1 hwop hn6
      have hll : L.length ≤ 100000 := by rw [hL.out, List.length_append]; have := HL1.out; omega
      have HTK : Hid (L ++ enI ⟨op, n⟩ = prg1 p ++ (p.code.take (k + 1)).flatMap enI) := by show _ = _; rw [hL.out, htk, List.append_assoc]
      have HN6 := Lib.hid hn6
      have HC0 := Lib.hid c0
      have HC1 := Lib.hid c1
      have hbB : b < B := by rw [HBe.out]; exact hbb
      have hii : (k : Int) < (p.code.length : Int) := by omega
      clear c0 c1 htk hlen hn6 hbb
      go_upto_region 10 with (at_builtin; refine wpList_append_byteR wr rfl _ _ rfl B wr.heap.size i0 hi hz0 hz1 hz2 _ op L rfl hR.out rfl rfl (by omega) hBr rfl ?_; intro v2 w2 L2 hL2 hR2 hK2 hB2; obtain ⟨a2, c2, rfl⟩ := hR2.shape; have HR2 := Lib.hid hR2; have HLy := Lib.hid hL2; clear hR2 hK2 hL2)
      have hb2 := hbr.trans hB2
      have e0 := (hb2.cell (p := ⟨b, off + k * 2, none⟩) hbB).trans HC0.out
      have e1 := (hb2.cell (p := ⟨b, off + k * 2 + 1, none⟩) hbB).trans HC1.out
      have s0 := (hb2.cell (p := ⟨w.heap.size, 0, none⟩) hzB).trans q0
      have hz2r : w.heap.size < w2.heap.size := by have := hb2.size; omega
      have hl2 : L2.length ≤ 100001 := by rw [HLy.out, List.length_append]; simp; omega
      clear d0 r0 hB2 hR
      by_cases hbar : barB op = true
      · have HREL : Hid (L2 = prg1 p ++ (p.code.take (k + 1)).flatMap enI) := by
          show _ = _
          rw [← HTK.out, HLy.out]
          unfold enI
          rw [if_pos hbar]
        have HBAR := Lib.hid hbar
        clear hbar
        go_wp2_with (go_at_call 92; refine (hasnum_lit _ _ _ HBAR.out).mono ?_; rintro e w' ⟨rfl, rfl⟩)
        go_roundw
        case rel => exact ⟨k + 1, L2, by omega, by go_num, HREL, HR2, hb2⟩
        case measure => simp [intOf]; omega
      · have hbar' : barB op = false := by simpa using hbar
        have HBAR := Lib.hid hbar'
        clear hbar hbar'
        go_upto_region 11 with (go_at_call 92; refine (hasnum_lit _ _ _ HBAR.out).mono ?_; rintro e w' ⟨rfl, rfl⟩)
        go_wp2_with fail
        refine (sevens_any n _ HN6.out).mono ?_; rintro e wa3 ⟨u3, rfl, hu3, hba3⟩
        obtain ⟨au3, cu3, rfl⟩ := own_shape hu3
        have HU3 := Lib.hid hu3
        have HO3 := Lib.hid (HR2.out.up hba3)
        have hbb3 := hb2.trans (hba3.mono (by have := hb2.size; omega))
        clear hu3
        go_upto_region 8 with (at_builtin; refine wpList_append_rows rfl _ _ rfl B _ i0 hi hz0 hz1 hz2 _ _ L2 (zb n) rfl HO3.out rfl HU3.out (zb_pos _) (by have := zb_len HN6.out; omega) (by have := hbb3.size; omega) ?_; intro v3 wb3 L3 hL3 hR3 hK3 hB3; have HKx3 := Lib.hid ((kp_below (P := B) hba3).trans hK3); obtain ⟨ab3, cb3, rfl⟩ := hR3.shape; have HR3 := Lib.hid hR3; have HLx3 := Lib.hid hL3; have hbc3 := hbb3.trans hB3; clear hR3 hK3 hB3 hL3 hba3)
        have HREL : Hid (L3 = prg1 p ++ (p.code.take (k + 1)).flatMap enI) := by
          show _ = _
          rw [← HTK.out, HLx3.out, HLy.out]
          unfold enI
          rw [if_neg (by rw [HBAR.out]; simp)]
          simp
        go_wp2
        go_roundw
        case rel => exact ⟨k + 1, L3, by omega, by go_num, HREL, HR3, hbc3⟩
        case measure => simp [intOf]; omega
    · have hkn : k = p.code.length := by omega
      have HLa : Hid (L = prg1 p ++ p.code.flatMap enI) := by
        show _ = _
        rw [hL.out, hkn, List.take_length]
      have hLl : L.length ≤ 100000 := by
        have := HL2.out
        unfold prg2 at this
        rw [HLa.out]
        simp only [List.length_append] at this ⊢
        omega
      clear hkn hL
      go_wp2_with fail
      refine (sevens_any p.pool.length _ HP66.out).mono ?_; rintro e wa4 ⟨u4, rfl, hu4, hba4⟩
      obtain ⟨au4, cu4, rfl⟩ := own_shape hu4
      have HU4 := Lib.hid hu4
      have HO4 := Lib.hid (hR.out.up hba4)
      have hbb4 := hbr.trans (hba4.mono (by have := hbr.size; omega))
      clear hu4
      go_upto_region 13 with (at_builtin; refine wpList_append_rows rfl _ _ rfl B _ i0 hi hz0 hz1 hz2 _ _ L (zb p.pool.length) rfl HO4.out rfl HU4.out (zb_pos _) (by have := zb_len HP66.out; omega) (by have := hbb4.size; omega) ?_; intro v4 wb4 L4 hL4 hR4 hK4 hB4; have HKx4 := Lib.hid ((kp_below (P := B) hba4).trans hK4); obtain ⟨ab4, cb4, rfl⟩ := hR4.shape; have HR4 := Lib.hid hR4; have HLx4 := Lib.hid hL4; have hbc4 := hbb4.trans hB4; clear hR4 hK4 hB4 hL4 hba4)
      have HLc4 : Hid (L4 = prg2 p ++ (p.pool.take 0).flatMap zb) := by show _ = _; rw [HLx4.out, HLa.out, List.take_zero, List.flatMap_nil, List.append_nil]; rfl
      clear r0 r1 hbb4 hzr hBr
      go_wp2
      obtain ⟨wo, rfl⟩ : ∃ wo : World, wo = wr := ⟨_, rfl⟩
      go_loopw [7, 9] (fun out i wr => ∃ (k : Nat) (L : List Int), k ≤ p.pool.length ∧ i = .int .i64 k ∧ Hid (L = prg2 p ++ (p.pool.take k).flatMap zb) ∧ Hid (RwB wr B out L) ∧ Below B w1 wr) (fun _ i _ => (p.pool.length - intOf i).toNat)
      case atStart => exact ⟨0, L4, by omega, rfl, HLc4, HR4, hbc4⟩
      case round =>
        obtain ⟨k, L, hk, rfl, hL, hR, hbr⟩ := hrel
        obtain ⟨av, cv, rfl⟩ := hR.out.shape
        have r1 := (hbr.cell (p := ⟨w.heap.size, 1, none⟩) hzB).trans q1
        have r2 := (hbr.cell (p := ⟨w.heap.size, 2, none⟩) hzB).trans q2
        have hzr : w.heap.size < wr.heap.size := by have := hbr.size; omega
        by_cases hlt : k < p.pool.length
        · obtain ⟨b, off, rfl, hbb, c0, _⟩ := elemInt HP1.out.2.1 k hlt
          have d0 := (hbr.cell (p := ⟨b, off + k, none⟩) (by show b < B; rw [HBe.out]; exact hbb)).trans c0
          have hx6 := HP6.out _ (List.getElem_mem hlt)
          have htk := take_flat (f := zb) p.pool k hlt
          have hlen := G2.out k
          generalize p.pool[k] = x at *
          have hll : L.length ≤ 200000 := by rw [hL.out, List.length_append]; have := HL2.out; omega
          have HX6 := Lib.hid hx6
          have HTK := Lib.hid htk
          have hii : (k : Int) < (p.pool.length : Int) := by omega
          clear c0 hx6 htk hlen
          go_wp2_with fail
          refine (sevens_any x _ HX6.out).mono ?_; rintro e wa5 ⟨u5, rfl, hu5, hba5⟩
          obtain ⟨au5, cu5, rfl⟩ := own_shape hu5
          have HU5 := Lib.hid hu5
          have HO5 := Lib.hid (hR.out.up hba5)
          have hbb5 := hbr.trans (hba5.mono (by have := hbr.size; omega))
          clear hu5
          go_upto_region 15 with (at_builtin; refine wpList_append_rows rfl _ _ rfl B _ i0 hi hz0 hz1 hz2 _ _ L (zb x) rfl HO5.out rfl HU5.out (zb_pos _) (by have := zb_len HX6.out; omega) (by have := hbb5.size; omega) ?_; intro v5 wb5 L5 hL5 hR5 hK5 hB5; have HKx5 := Lib.hid ((kp_below (P := B) hba5).trans hK5); obtain ⟨ab5, cb5, rfl⟩ := hR5.shape; have HR5 := Lib.hid hR5; have HLx5 := Lib.hid hL5; have hbc5 := hbb5.trans hB5; clear hR5 hK5 hB5 hL5 hba5)
          have HREL : Hid (L5 = prg2 p ++ (p.pool.take (k + 1)).flatMap zb) := by
            show _ = _
            rw [HLx5.out, hL.out, HTK.out, List.append_assoc]
          go_wp2
          go_roundw
          case rel => exact ⟨k + 1, L5, by omega, by go_num, HREL, HR5, hbc5⟩
          case measure => simp [intOf]; omega
        · have hkn : k = p.pool.length := by omega
          have HLa : Hid (L = prg2 p ++ p.pool.flatMap zb) := by
            show _ = _
            rw [hL.out, hkn, List.take_length]
          have hLl : L.length ≤ 200000 := by
            have := HL3.out
            unfold prg3 at this
            rw [HLa.out]
            simp only [List.length_append] at this ⊢
            omega
          clear hkn hL
          go_wp2_with fail
          refine (sevens_any p.answers.length _ HA66.out).mono ?_; rintro e wa6 ⟨u6, rfl, hu6, hba6⟩
          obtain ⟨au6, cu6, rfl⟩ := own_shape hu6
          have HU6 := Lib.hid hu6
          have HO6 := Lib.hid (hR.out.up hba6)
          have hbb6 := hbr.trans (hba6.mono (by have := hbr.size; omega))
          clear hu6
          go_upto_region 18 with (at_builtin; refine wpList_append_rows rfl _ _ rfl B _ i0 hi hz0 hz1 hz2 _ _ L (zb p.answers.length) rfl HO6.out rfl HU6.out (zb_pos _) (by have := zb_len HA66.out; omega) (by have := hbb6.size; omega) ?_; intro v6 wb6 L6 hL6 hR6 hK6 hB6; have HKx6 := Lib.hid ((kp_below (P := B) hba6).trans hK6); obtain ⟨ab6, cb6, rfl⟩ := hR6.shape; have HR6 := Lib.hid hR6; have HLx6 := Lib.hid hL6; have hbc6 := hbb6.trans hB6; clear hR6 hK6 hB6 hL6 hba6)
          have HLc6 : Hid (L6 = prg3 p ++ (p.answers.take 0).flatMap enA) := by show _ = _; rw [HLx6.out, HLa.out, List.take_zero, List.flatMap_nil, List.append_nil]; rfl
          clear r1 r2 hbb6 hzr
          go_wp2
          obtain ⟨wo, rfl⟩ : ∃ wo : World, wo = wr := ⟨_, rfl⟩
          go_loopw [7, 10] (fun out i wr => ∃ (k : Nat) (L : List Int), k ≤ p.answers.length ∧ i = .int .i64 k ∧ Hid (L = prg3 p ++ (p.answers.take k).flatMap enA) ∧ Hid (RwB wr B out L) ∧ Below B w1 wr) (fun _ i _ => (p.answers.length - intOf i).toNat)
          case atStart => exact ⟨0, L6, by omega, rfl, HLc6, HR6, hbc6⟩
          case round =>
            obtain ⟨k, L, hk, rfl, hL, hR, hbr⟩ := hrel
            obtain ⟨av, cv, rfl⟩ := hR.out.shape
            have r2 := (hbr.cell (p := ⟨w.heap.size, 2, none⟩) hzB).trans q2
            have hzr : w.heap.size < wr.heap.size := by have := hbr.size; omega
            by_cases hlt : k < p.answers.length
            · obtain ⟨b, off, vo, rfl, hbb, ⟨c0, c1, c2, c3, c4⟩, hvo, hnm, _, _⟩ := elemAns HP1.out.2.2 k hlt
              obtain ⟨ao, co, rfl, lo⟩ := hvo.shape
              have hbB : b < B := by rw [HBe.out]; exact hbb
              have d0 := (hbr.cell (p := ⟨b, off + k * 5, none⟩) hbB).trans c0
              have d1 := (hbr.cell (p := ⟨b, off + k * 5 + 1, none⟩) hbB).trans c1
              have d2 := (hbr.cell (p := ⟨b, off + k * 5 + 2, none⟩) hbB).trans c2
              have d3 := (hbr.cell (p := ⟨b, off + k * 5 + 3, none⟩) hbB).trans c3
              have d4 := (hbr.cell (p := ⟨b, off + k * 5 + 4, none⟩) hbB).trans c4
              have hx := HA6.out _ (List.getElem_mem hlt)
              have hxe := ansE_offs (HAE.out _ (List.getElem_mem hlt))
              have htk := take_flat (f := enA) p.answers k hlt
              have hlen := G3.out k
              generalize p.answers[k] = x at *
              obtain ⟨⟨xo, xs, xn⟩, offs, xj⟩ := x
              dsimp only at d0 d1 d2 d3 d4 hx hxe hvo lo
              obtain ⟨hx1, hx2, hx3⟩ := hx
              obtain ⟨ho6, hn24⟩ := hxe
              have hll : L.length ≤ 468000 := by rw [hL.out, List.length_append]; have := HL3.out; omega
              have HTK : Hid (L ++ enA ⟨⟨xo, xs, xn⟩, offs, xj⟩ = prg3 p ++ (p.answers.take (k + 1)).flatMap enA) := by show _ = _; rw [hL.out, htk, List.append_assoc]
              have hBr : B < wr.heap.size := by
                have h1 := hbr.size
                have h2 := hR.out
                obtain ⟨_, h3⟩ := h2
                rcases h3 with ⟨h4, h5⟩ | ⟨g, cap', cur, hv, hb', hh, _⟩
                · have h6 : 0 < L.length := by rw [hL.out]; unfold prg3 prg2 prg1; simp <;> omega
                  omega
                · have := heap_lt hh; omega
              have hRa := World.ownsRow.alloc hR.out (.cells #[.int .i64 xo, .bool xs, .string xn, .slice ao offs.length co, .int .i64 xj] 27)
              have HRa : Hid (RwB (wr.alloc (.cells #[.int .i64 xo, .bool xs, .string xn, .slice ao offs.length co, .int .i64 xj] 27)) B (.slice av L.length cv) L) := hRa
              have HHX := Lib.hid (heap_new wr #[.int .i64 xo, .bool xs, .string xn, .slice ao offs.length co, .int .i64 xj] 27)
              have hbx : Below B w1 (wr.alloc (.cells #[.int .i64 xo, .bool xs, .string xn, .slice ao offs.length co, .int .i64 xj] 27)) := hbr.alloc (by omega) _
              have hcx : ∀ j, (wr.alloc (.cells #[.int .i64 xo, .bool xs, .string xn, .slice ao offs.length co, .int .i64 xj] 27)).cell? ⟨wr.heap.size, j, none⟩ = #[.int .i64 xo, .bool xs, .string xn, .slice ao offs.length co, .int .i64 xj][j]? := fun j => World.cell?_alloc_at (w := wr) _ _ wr.heap.size j rfl
              have HCX := Lib.hid hcx
              have HX1 := Lib.hid hx1
              have HX2 := Lib.hid hx2
              have HX3 := Lib.hid hx3
              have HVO := Lib.hid hvo
              have HNE : Hid (wr.heap.size ≠ B) := by show _ ≠ _; omega
              have hii : (k : Int) < (p.answers.length : Int) := by omega
              have hfo := fun j => take_le (f := zb) (c := 10) offs j (fun x hx => zb_len (hx3 x hx))
              have HFO := Lib.hid hfo
              have hxn6 : Hid (I64 (xn.size : Int)) := i64_nat xn.size (by omega)
              have hof6 : Hid (I64 (offs.length : Int)) := i64_nat offs.length (by omega)
              have e1 := zb_len hx1
              have e3 := zb_len (sav64 xs)
              have e4 := zb_len hxn6.out
              have e5 := zb_len hof6.out
              have e7 := strL_len xn
              have HE := Lib.hid (show (zb xo).length ≤ 10 ∧ (zb (savI xs)).length ≤ 10 ∧ (zb xn.size).length ≤ 10 ∧ (strL xn).length = xn.size ∧ (zb offs.length).length ≤ 10 from ⟨e1, e3, e4, e7, e5⟩)
              clear c0 c1 c2 c3 c4 htk hlen hx1 hx2 hx3 hvo lo hcx hfo hRa e1 e3 e4 e5 e7 hbb
              go_wp2_with fail
              refine (sevens_any xo _ HX1.out).mono ?_; rintro e wa7 ⟨u7, rfl, hu7, hba7⟩
              obtain ⟨au7, cu7, rfl⟩ := own_shape hu7
              have HU7 := Lib.hid hu7
              have HO7 := Lib.hid (HRa.out.up hba7)
              have hbb7 := hbx.trans (hba7.mono (by have := hbx.size; omega))
              have HHa7 := Lib.hid ((hba7.block _ (heap_lt HHX.out)).trans HHX.out)
              have hca7 := fun j => (hba7.cell (p := ⟨wr.heap.size, j, none⟩) (heap_lt HHX.out)).trans (HCX.out j)
              have HCa7 := Lib.hid hca7
              clear hca7
              clear hu7
              go_upto_region 23 with (at_builtin; refine wpList_append_rows rfl _ _ rfl B _ i0 hi hz0 hz1 hz2 _ _ L (zb xo) rfl HO7.out rfl HU7.out (zb_pos _) (by have := zb_len HX1.out; omega) (by have := hbb7.size; omega) ?_; intro v7 wb7 L7 hL7 hR7 hK7 hB7; have HKx7 := Lib.hid ((kp_below (P := B) hba7).trans hK7); obtain ⟨ab7, cb7, rfl⟩ := hR7.shape; have HR7 := Lib.hid hR7; have HHb7 := Lib.hid (hK7 _ _ _ _ HHa7.out (by decide) HNE.out); have hcb7 := fun j => (hK7.cell (j := j) HHa7.out (by decide) HNE.out).trans (HCa7.out j); have HCb7 := Lib.hid hcb7; clear hcb7; have HLx7 := Lib.hid hL7; have hbc7 := hbb7.trans hB7; clear hR7 hK7 hB7 hL7 hba7)
              have t1 : wb7.cell? ⟨wr.heap.size, 1, none⟩ = some (.bool xs) := HCb7.out 1
              have hl7 : L7.length ≤ 468010 := by rw [HLx7.out, List.length_append]; have := HE.out.1; omega
              have hB7' : B ≤ wb7.heap.size := by have := hbc7.size; omega
              clear d0 d1 d2 d3 d4
              go_upto_if 109 with fail
              go_cut [7] (fun s7 wx => ∃ L' : List Int, Hid (L' = L7 ++ zb (savI xs)) ∧ Hid (RwB wx B s7 L') ∧ Hid (Kp B wb7 wx) ∧ Below B w1 wx)
              case first =>
                cases xs
                · go_wp2_with (at_builtin; refine wpList_append_byteR wb7 rfl _ _ rfl B wb7.heap.size i0 hi hz0 hz1 hz2 _ 0 L7 rfl HR7.out rfl rfl (by omega) hB7' rfl ?_; intro v8 w8 L8 hL8 hR8 hK8 hB8; obtain ⟨a8, c8, rfl⟩ := hR8.shape; have HR8 := Lib.hid hR8; have HK8 := Lib.hid hK8; have HLx8 := Lib.hid hL8; clear hR8 hK8 hL8)
                  go_meet
                  exact ⟨L8, by show _ = _; rw [HLx8.out]; exact congrArg _ zb_0.symm, HR8, HK8, hbc7.trans hB8⟩
                · go_wp2_with (at_builtin; refine wpList_append_byteR wb7 rfl _ _ rfl B wb7.heap.size i0 hi hz0 hz1 hz2 _ 2 L7 rfl HR7.out rfl rfl (by omega) hB7' rfl ?_; intro v8 w8 L8 hL8 hR8 hK8 hB8; obtain ⟨a8, c8, rfl⟩ := hR8.shape; have HR8 := Lib.hid hR8; have HK8 := Lib.hid hK8; have HLx8 := Lib.hid hL8; clear hR8 hK8 hL8)
                  go_meet
                  exact ⟨L8, by show _ = _; rw [HLx8.out]; exact congrArg _ zb_1.symm, HR8, HK8, hbc7.trans hB8⟩
              case rest =>
                obtain ⟨L8, hL8, hR8, hK8, hB8⟩ := hcut
                obtain ⟨a8, c8, rfl⟩ := hR8.out.shape
                have HH8 := Lib.hid (hK8.out _ _ _ _ HHb7.out (by decide) HNE.out)
                have hc8 := fun j => (hK8.out.cell (j := j) HHb7.out (by decide) HNE.out).trans (HCb7.out j)
                have HC8 := Lib.hid hc8
                have t2 : wc.cell? ⟨wr.heap.size, 2, none⟩ = some (.string xn) := HC8.out 2
                have hl8 : L8.length ≤ 468020 := by rw [hL8.out, List.length_append]; have := HE.out.2.1; omega
                clear hc8 t1 hbb7
                go_wp2_with fail
                refine (sevens_any xn.size _ hxn6.out).mono ?_; rintro e wa9 ⟨u9, rfl, hu9, hba9⟩
                obtain ⟨au9, cu9, rfl⟩ := own_shape hu9
                have HU9 := Lib.hid hu9
                have HO9 := Lib.hid (hR8.out.up hba9)
                have hbb9 := hB8.trans (hba9.mono (by have := hB8.size; omega))
                have HHa9 := Lib.hid ((hba9.block _ (heap_lt HH8.out)).trans HH8.out)
                have hca9 := fun j => (hba9.cell (p := ⟨wr.heap.size, j, none⟩) (heap_lt HH8.out)).trans (HC8.out j)
                have HCa9 := Lib.hid hca9
                clear hca9
                clear hu9
                go_upto_region 27 with (at_builtin; refine wpList_append_rows rfl _ _ rfl B _ i0 hi hz0 hz1 hz2 _ _ L8 (zb xn.size) rfl HO9.out rfl HU9.out (zb_pos _) (by have := zb_len hxn6.out; omega) (by have := hbb9.size; omega) ?_; intro v9 wb9 L9 hL9 hR9 hK9 hB9; have HKx9 := Lib.hid ((kp_below (P := B) hba9).trans hK9); obtain ⟨ab9, cb9, rfl⟩ := hR9.shape; have HR9 := Lib.hid hR9; have HHb9 := Lib.hid (hK9 _ _ _ _ HHa9.out (by decide) HNE.out); have hcb9 := fun j => (hK9.cell (j := j) HHa9.out (by decide) HNE.out).trans (HCa9.out j); have HCb9 := Lib.hid hcb9; clear hcb9; have HLx9 := Lib.hid hL9; have hbc9 := hbb9.trans hB9; clear hR9 hK9 hB9 hL9 hba9)
                have t3 : wb9.cell? ⟨wr.heap.size, 2, none⟩ = some (.string xn) := HCb9.out 2
                have hl9 : L9.length ≤ 468030 := by rw [HLx9.out, List.length_append]; have := HE.out.2.2.1; omega
                have hB9' : B ≤ wb9.heap.size := by have := hbc9.size; omega
                clear t2
                go_upto_region 28 with (at_builtin; refine wpList_append_strs rfl _ _ rfl B i0 hi hz0 hz1 hz2 _ xn L9 rfl HR9.out rfl (by omega) hB9' ?_; intro vA wA LA hLA hRA hKA hBA; obtain ⟨aA, cA, rfl⟩ := hRA.shape; have HRA := Lib.hid hRA; have HHA := Lib.hid (hKA _ _ _ _ HHb9.out (by decide) HNE.out); have hcA := fun j => (hKA.cell (j := j) HHb9.out (by decide) HNE.out).trans (HCb9.out j); have HCA := Lib.hid hcA; have HLA := Lib.hid hLA; have hbA := hbc9.trans hBA; clear hRA hKA hLA hcA hBA)
                have t4 : wA.cell? ⟨wr.heap.size, 3, none⟩ = some (.slice ao offs.length co) := HCA.out 3
                have hlA : LA.length ≤ 468060 := by rw [HLA.out, List.length_append]; have := HE.out.2.2.2.1; omega
                clear t3
                go_wp2_with fail
                refine (sevens_any offs.length _ hof6.out).mono ?_; rintro e wa0 ⟨u0, rfl, hu0, hba0⟩
                obtain ⟨au0, cu0, rfl⟩ := own_shape hu0
                have HU0 := Lib.hid hu0
                have HO0 := Lib.hid (HRA.out.up hba0)
                have hbb0 := hbA.trans (hba0.mono (by have := hbA.size; omega))
                have HHa0 := Lib.hid ((hba0.block _ (heap_lt HHA.out)).trans HHA.out)
                have hca0 := fun j => (hba0.cell (p := ⟨wr.heap.size, j, none⟩) (heap_lt HHA.out)).trans (HCA.out j)
                have HCa0 := Lib.hid hca0
                clear hca0
                clear hu0
                go_upto_region 29 with (at_builtin; refine wpList_append_rows rfl _ _ rfl B _ i0 hi hz0 hz1 hz2 _ _ LA (zb offs.length) rfl HO0.out rfl HU0.out (zb_pos _) (by have := zb_len hof6.out; omega) (by have := hbb0.size; omega) ?_; intro v0 wb0 L0 hL0 hR0 hK0 hB0; have HKx0 := Lib.hid ((kp_below (P := B) hba0).trans hK0); obtain ⟨ab0, cb0, rfl⟩ := hR0.shape; have HR0 := Lib.hid hR0; have HHb0 := Lib.hid (hK0 _ _ _ _ HHa0.out (by decide) HNE.out); have hcb0 := fun j => (hK0.cell (j := j) HHa0.out (by decide) HNE.out).trans (HCa0.out j); have HCb0 := Lib.hid hcb0; clear hcb0; have HLx0 := Lib.hid hL0; have hbc0 := hbb0.trans hB0; clear hR0 hK0 hB0 hL0 hba0)
                have HL0 : Hid (L0 = L ++ enH ⟨⟨xo, xs, xn⟩, offs, xj⟩ ++ (offs.take 0).flatMap zb) := by
                  show _ = _
                  rw [HLx0.out, HLA.out, HLx9.out, hL8.out, HLx7.out, List.take_zero, List.flatMap_nil, List.append_nil]
                  unfold enH
                  simp only [← List.append_assoc]
                clear t4
                go_wp2
                obtain ⟨wo2, rfl⟩ : ∃ wo2 : World, wo2 = wr := ⟨_, rfl⟩
                go_loopw [7, 12] (fun out i wq => ∃ (j : Nat) (Lj : List Int), j ≤ offs.length ∧ i = .int .i64 j ∧ Hid (Lj = L ++ enH ⟨⟨xo, xs, xn⟩, offs, xj⟩ ++ (offs.take j).flatMap zb) ∧ Hid (RwB wq B out Lj) ∧ Hid (Kp B wb0 wq) ∧ Below B w1 wq) (fun _ i _ => (offs.length - intOf i).toNat)
                case atStart => exact ⟨0, L0, by omega, rfl, HL0, HR0, Kp.refl _ _, hbc0⟩
                case round =>
                  obtain ⟨j, Lj, hj, rfl, hLj, hRj, hkj, hbj⟩ := hrel
                  obtain ⟨aj, cj, rfl⟩ := hRj.out.shape
                  have HHj := Lib.hid (hkj.out _ _ _ _ HHb0.out (by decide) HNE.out)
                  have hcj := fun i => (hkj.out.cell (j := i) HHb0.out (by decide) HNE.out).trans (HCb0.out i)
                  have HCj := Lib.hid hcj
                  have t3 : wr.cell? ⟨wo2.heap.size, 3, none⟩ = some (.slice ao offs.length co) := HCj.out 3
                  have hlj : Lj.length ≤ 468200 := by
                    rw [hLj.out]
                    unfold enH
                    simp only [List.length_append]
                    have h1 := HE.out
                    have h2 := HFO.out j
                    omega
                  clear hcj
                  by_cases hjl : j < offs.length
                  · obtain ⟨b5, o5, rfl, hb5b, f0, _⟩ := elemInt HVO.out j hjl
                    have f1 := (hbj.cell (p := ⟨b5, o5 + j, none⟩) (by show b5 < B; rw [HBe.out]; exact hb5b)).trans f0
                    have hy6 := HX3.out _ (List.getElem_mem hjl)
                    have htk := take_flat (f := zb) offs j hjl
                    generalize offs[j] = y at *
                    have HY6 := Lib.hid hy6
                    have HTJ := Lib.hid htk
                    have hjj : (j : Int) < (offs.length : Int) := by omega
                    clear f0 hy6 htk
                    go_wp2_with fail
                    refine (sevens_any y _ HY6.out).mono ?_; rintro e wa2 ⟨u2, rfl, hu2, hba2⟩
                    obtain ⟨au2, cu2, rfl⟩ := own_shape hu2
                    have HU2 := Lib.hid hu2
                    have HO2 := Lib.hid (hRj.out.up hba2)
                    have hbb2 := hbj.trans (hba2.mono (by have := hbj.size; omega))
                    have HHa2 := Lib.hid ((hba2.block _ (heap_lt HHj.out)).trans HHj.out)
                    have hca2 := fun j => (hba2.cell (p := ⟨wo2.heap.size, j, none⟩) (heap_lt HHj.out)).trans (HCj.out j)
                    have HCa2 := Lib.hid hca2
                    clear hca2
                    clear hu2
                    go_upto_region 31 with (at_builtin; refine wpList_append_rows rfl _ _ rfl B _ i0 hi hz0 hz1 hz2 _ _ Lj (zb y) rfl HO2.out rfl HU2.out (zb_pos _) (by have := zb_len HY6.out; omega) (by have := hbb2.size; omega) ?_; intro v2 wb2 L2 hL2 hR2 hK2 hB2; have HKx2 := Lib.hid ((kp_below (P := B) hba2).trans hK2); obtain ⟨ab2, cb2, rfl⟩ := hR2.shape; have HR2 := Lib.hid hR2; have HHb2 := Lib.hid (hK2 _ _ _ _ HHa2.out (by decide) HNE.out); have hcb2 := fun j => (hK2.cell (j := j) HHa2.out (by decide) HNE.out).trans (HCa2.out j); have HCb2 := Lib.hid hcb2; clear hcb2; have HLx2 := Lib.hid hL2; have hbc2 := hbb2.trans hB2; clear hR2 hK2 hB2 hL2 hba2)
                    have HREL : Hid (L2 = L ++ enH ⟨⟨xo, xs, xn⟩, offs, xj⟩ ++ (offs.take (j + 1)).flatMap zb) := by
                      show _ = _
                      rw [HLx2.out, hLj.out, HTJ.out, List.append_assoc, List.append_assoc]
                    have HKJ : Hid (Kp B wb0 wb2) := hkj.out.trans HKx2.out
                    go_wp2
                    go_roundw
                    case rel => exact ⟨j + 1, L2, by omega, by go_num, HREL, HR2, HKJ, hbc2⟩
                    case measure => simp [intOf]; omega
                  · have hjn : j = offs.length := by omega
                    have HL9j : Hid (Lj = L ++ enH ⟨⟨xo, xs, xn⟩, offs, xj⟩ ++ offs.flatMap zb) := by show _ = _; rw [hLj.out, hjn, List.take_length]
                    have t5 : wr.cell? ⟨wo2.heap.size, 4, none⟩ = some (.int .i64 xj) := HCj.out 4
                    clear hjn hLj
                    go_wp2_with fail
                    refine (sevens_any xj _ HX2.out).mono ?_; rintro e wa3 ⟨u3, rfl, hu3, hba3⟩
                    obtain ⟨au3, cu3, rfl⟩ := own_shape hu3
                    have HU3 := Lib.hid hu3
                    have HO3 := Lib.hid (hRj.out.up hba3)
                    have hbb3 := hbj.trans (hba3.mono (by have := hbj.size; omega))
                    have HHa3 := Lib.hid ((hba3.block _ (heap_lt HHj.out)).trans HHj.out)
                    have hca3 := fun j => (hba3.cell (p := ⟨wo2.heap.size, j, none⟩) (heap_lt HHj.out)).trans (HCj.out j)
                    have HCa3 := Lib.hid hca3
                    clear hca3
                    clear hu3
                    go_upto_region 20 with (at_builtin; refine wpList_append_rows rfl _ _ rfl B _ i0 hi hz0 hz1 hz2 _ _ Lj (zb xj) rfl HO3.out rfl HU3.out (zb_pos _) (by have := zb_len HX2.out; omega) (by have := hbb3.size; omega) ?_; intro v3 wb3 L3 hL3 hR3 hK3 hB3; have HKx3 := Lib.hid ((kp_below (P := B) hba3).trans hK3); obtain ⟨ab3, cb3, rfl⟩ := hR3.shape; have HR3 := Lib.hid hR3; have HHb3 := Lib.hid (hK3 _ _ _ _ HHa3.out (by decide) HNE.out); have hcb3 := fun j => (hK3.cell (j := j) HHa3.out (by decide) HNE.out).trans (HCa3.out j); have HCb3 := Lib.hid hcb3; clear hcb3; have HLx3 := Lib.hid hL3; have hbc3 := hbb3.trans hB3; clear hR3 hK3 hB3 hL3 hba3)
                    have HREL : Hid (L3 = prg3 p ++ (p.answers.take (k + 1)).flatMap enA) := by
                      show _ = _
                      rw [← HTK.out, HLx3.out, HL9j.out]
                      unfold enA
                      simp only [← List.append_assoc]
                    go_wp2
                    go_roundw
                    case rel => exact ⟨k + 1, L3, by omega, by go_num, HREL, HR3, hbc3⟩
                    case measure => simp [intOf]; omega
            · have hkn : k = p.answers.length := by omega
              have HLF : Hid (L = prgB p) := by show _ = _; rw [hL.out, hkn, List.take_length]; rfl
              have HF := Lib.hid (hw1.trans (hbr.mono (show w.heap.size ≤ B by omega)))
              clear hkn hL
              go_wp2
              go_ret2
              refine ⟨_, rfl, ?_, HF.out⟩
              rw [← HLF.out]
              exact ownsRow_base (by omega) hR.out
end Go.Proofs.Ytpnmaopompfalaa

