/-
  code.Encode.
-/
import Derived.Test.YtpnmaopompfalaaEncC
import Derived.Deep.AppendLies
import Derived.Deep.RegionLaw
import Derived.Lib.SlBytesConst
import Derived.Deep.DeepCutAuto
import Derived.Deep.CutRange
import Derived.Deep.CutBlock
namespace Go.Proofs.Ytpnmaopompfalaa
set_option linter.unusedVariables false
set_option linter.unusedSimpArgs false
open Go.ChangeShapes Go.WideShapes Go.ChangeAt Go.RowKit

theorem op_wrap {op : Int} (h : op = 1 ∨ op = 2 ∨ op = 3 ∨ op = 4 ∨ op = 5 ∨ op = 6) : IntKind.u8.wrap op = op := by
  rcases h with rfl | rfl | rfl | rfl | rfl | rfl <;> rfl
theorem ansL {a : Ans} (h : ansE a = 0) (hx : I64 a.ck.off) (hj : I64 a.jump) (hv : ∀ x ∈ a.offs, I64 x) : (enH a).length ≤ 64 ∧ (a.offs.flatMap zb).length ≤ 60 ∧ (enA a).length ≤ 134 := by
  obtain ⟨h1, h2⟩ := ansE_offs h
  have e1 := zb_len hx
  have e2 := zb_len hj
  have e3 := zb_len (sav64 a.ck.sav)
  have e4 := zb_len (i64_nat a.ck.nm.size (by omega))
  have e5 := zb_len (i64_nat a.offs.length (by omega))
  have e6 := flat_le (f := zb) (c := 10) a.offs (fun x hx => zb_len (hv x hx))
  have e7 := strL_len a.ck.nm
  have e8 : (enH a).length ≤ 64 := by unfold enH; simp only [List.length_append]; omega
  refine ⟨e8, by omega, ?_⟩
  unfold enA
  simp only [List.length_append]
  omega
set_option maxRecDepth 100000 in
set_option maxHeartbeats 8000000 in
theorem encode_ok (p : Prg) (vc vp va : Value) (w : World) (hp : PrgAt w vc vp va p) {x0 y0 : Int} (h : verE p = (x0, y0, 0)) :
    Calls Try.prog 47 #[.agg #[vc, vp, va]] w fun e w' => ∃ v, e = .returned (.tuple #[v, .int .i64 0]) ∧ w'.ownsRow w.heap.size 5 1 v (prgB p).length ((prgB p).flatMap encB) ∧ Below w.heap.size w w' := by
  obtain ⟨hg, _⟩ := ver0 h
  obtain ⟨g0, g1, g2, g3, g4, g5⟩ := prg_good hg
  obtain ⟨i0, hi, hz0, hz1, hz2⟩ := info_parts info_byte
  obtain ⟨ac, cc, rfl, lc⟩ := hp.1.shape
  obtain ⟨aq, cq, rfl, lq⟩ := hp.2.1.shape
  obtain ⟨aa, ca, rfl, la⟩ := hp.2.2.shape
  have hI64 : ∀ x ∈ p.code, I64 x.n := fun x hx => by
    obtain ⟨cs, _, _, hn⟩ := hp.1.all _ hx
    exact hn
  have hP64 : ∀ x ∈ p.pool, I64 x := ints64 hp.2.1
  have hA64 : ∀ x ∈ p.answers, I64 x.ck.off ∧ I64 x.jump ∧ ∀ y ∈ x.offs, I64 y := fun x hx => by
    obtain ⟨cs, vo, _, hv, h1, h2, _⟩ := hp.2.2.all _ hx
    exact ⟨h1, h2, ints64 hv⟩
  have hAE : ∀ x ∈ p.answers, ansE x = 0 := fun x hx => by
    obtain ⟨i, hi, rfl⟩ := List.mem_iff_getElem.1 hx
    exact g4 i hi
  have z1 := zb_len (i64_nat p.code.length (by omega))
  have z2 := zb_len (i64_nat p.pool.length (by omega))
  have z3 := zb_len (i64_nat p.answers.length (by omega))
  have L1 : (prg1 p).length ≤ 13 := by unfold prg1; simp; omega
  have F1 : ∀ k, ((p.code.take k).flatMap enI).length ≤ p.code.length * 11 := fun k => take_le _ k fun x hx => enI_le (hI64 x hx)
  have F2 : ∀ k, ((p.pool.take k).flatMap zb).length ≤ p.pool.length * 10 := fun k => take_le _ k fun x hx => zb_len (hP64 x hx)
  have F3 : ∀ k, ((p.answers.take k).flatMap enA).length ≤ p.answers.length * 134 := fun k => take_le _ k fun x hx => (ansL (hAE x hx) (hA64 x hx).1 (hA64 x hx).2.1 (hA64 x hx).2.2).2.2
  have L2 : (prg2 p).length ≤ 100000 := by
    have := F1 p.code.length
    rw [List.take_length] at this
    unfold prg2; simp only [List.length_append]; omega
  have L3 : (prg3 p).length ≤ 200000 := by
    have := F2 p.pool.length
    rw [List.take_length] at this
    unfold prg3; simp only [List.length_append]; omega
  have G1 := Lib.hid F1
  have G2 := Lib.hid F2
  have G3 := Lib.hid F3
  have HI := Lib.hid hI64
  have HP6 := Lib.hid hP64
  have HA6 := Lib.hid hA64
  have HAE := Lib.hid hAE
  have HN := Lib.hid (fun i (hi : i < p.code.length) => (ins_n8 hg hi).1)
  have HP := Lib.hid hp
  have HV := Lib.hid h
  have hcl : (p.code.length : Int) ≤ 8000 := by omega
  have hpl : (p.pool.length : Int) ≤ 2000 := by omega
  have hal : (p.answers.length : Int) ≤ 2000 := by omega
  have HL1 := Lib.hid L1
  have HL2 := Lib.hid L2
  have HL3 := Lib.hid L3
  have HC6 := Lib.hid (i64_nat p.code.length (by omega))
  have HP66 := Lib.hid (i64_nat p.pool.length (by omega))
  have HA66 := Lib.hid (i64_nat p.answers.length (by omega))
  have bw : Below w.heap.size w (w.alloc (.cells #[.slice ac p.code.length cc, .slice aq p.pool.length cq, .slice aa p.answers.length ca] 58)) := (Below.refl _ _).alloc (Nat.le_refl _) _
  have hs := size_alloc w (.cells #[.slice ac p.code.length cc, .slice aq p.pool.length cq, .slice aa p.answers.length ca] 58)
  have b0 : ∀ j, (w.alloc (.cells #[.slice ac p.code.length cc, .slice aq p.pool.length cq, .slice aa p.answers.length ca] 58)).cell? ⟨w.heap.size, j, none⟩ = #[.slice ac p.code.length cc, .slice aq p.pool.length cq, .slice aa p.answers.length ca][j]? := fun j => World.cell?_alloc_at (w := w) _ _ w.heap.size j rfl
  have HS := Lib.hid hs
  have HB0 := Lib.hid b0
  clear hp h hg g0 g1 g2 g3 g4 g5 lc lq la hI64 hP64 hA64 hAE z1 z2 z3 L1 L2 L3 F1 F2 F3 hs b0
  have kc := fun (w : World) (C : Array Value) (n c : Nat) => Lib.run_convert_bytes_const (P := Try.prog) w 66 5 C n c Try.underlying66 Try.underlying5
  go_enter Try.func47, Try.ntmps47
  go_wp2_with fail
  refine (verify_any p _ _ _ _ (HP.out.mono bw) HV.out).mono ?_; rintro e w1 ⟨rfl, hb1⟩
  have hz : w.heap.size < (w.alloc (.cells #[.slice ac p.code.length cc, .slice aq p.pool.length cq, .slice aa p.answers.length ca] 58)).heap.size := by rw [HS.out]; omega
  have hzb := Nat.lt_of_lt_of_le hz hb1.size
  have q0 : w1.cell? ⟨w.heap.size, 0, none⟩ = some (.slice ac p.code.length cc) := (hb1.cell (p := ⟨w.heap.size, 0, none⟩) hz).trans (HB0.out 0)
  have q1 : w1.cell? ⟨w.heap.size, 1, none⟩ = some (.slice aq p.pool.length cq) := (hb1.cell (p := ⟨w.heap.size, 1, none⟩) hz).trans (HB0.out 1)
  have q2 : w1.cell? ⟨w.heap.size, 2, none⟩ = some (.slice aa p.answers.length ca) := (hb1.cell (p := ⟨w.heap.size, 2, none⟩) hz).trans (HB0.out 2)
  have hw1 := bw.trans (hb1.mono bw.size)
  have HP1 := Lib.hid (HP.out.mono hw1)
  have HBN := Lib.hid (by_new w1 117 (by decide))
  have hbN : Below w1.heap.size w1 ((w1.alloc (.cells #[.int .u8 115, .int .u8 100, .int .u8 49] 5 (3, 4))).alloc (.cells #[.slice (some ⟨w1.heap.size, 0, none⟩) 3 3] 117)) := below_alloc2 (Nat.le_refl _) _ _
  clear hb1 HS HB0 hz bw HP
  go_wp2_with fail
  refine (wnum_any (w1.heap.size + 1) w1.heap.size [115, 100, 49] p.code.length _ (Nat.le_succ _) HBN.out HC6.out (by simp)).mono ?_; rintro e w2 ⟨rfl, hby, hkp, hbr⟩
  have hb2 := hbN.trans hbr
  have HBY : Hid (ByAt w2 (w1.heap.size + 1) w1.heap.size (prg1 p ++ (p.code.take 0).flatMap enI)) := by
    show ByAt _ _ _ _
    rw [List.take_zero, List.flatMap_nil, List.append_nil]
    exact hby
  have p0 := (hb2.cell (p := ⟨w.heap.size, 0, none⟩) hzb).trans q0
  have hzb2 := Nat.lt_of_lt_of_le hzb hb2.size
  clear hbN hbr hby hkp HBN
  obtain ⟨B, hB⟩ : ∃ B, B = w1.heap.size := ⟨_, rfl⟩
  obtain ⟨P, hPd⟩ : ∃ P, P = w1.heap.size + 1 := ⟨_, rfl⟩
  rw [← hPd, ← hB] at HBY
  rw [← hB] at hb2
  have hPB : P = B + 1 := by omega
  have hBP : B ≤ P := by omega
  have hB1 : B ≤ w1.heap.size := Nat.le_of_eq hB
  have hB1' : w1.heap.size ≤ B := Nat.le_of_eq hB.symm
  rw [← hPd]
  have HPB := Lib.hid hPB
  clear hPd hB hPB
  go_wp2
  go_loopw [38] (fun i wr => ∃ k : Nat, k ≤ p.code.length ∧ i = .int .i64 k ∧ Hid (ByAt wr P B (prg1 p ++ (p.code.take k).flatMap enI)) ∧ Below B w1 wr) (fun i _ => (p.code.length - intOf i).toNat)
  case atStart => exact ⟨0, by omega, rfl, HBY, hb2⟩
  case round =>
    obtain ⟨k, hk, rfl, hby, hbr⟩ := hrel
    have hzB : w.heap.size < B := by omega
    by_cases hlt : k < p.code.length
    · obtain ⟨b, off, rfl, hbb, ⟨c0, c1⟩, _, _⟩ := elemIns HP1.out.1 k hlt
      have d0 := (hbr.cell (p := ⟨b, off + k * 2, none⟩) (by show b < B; omega)).trans c0
      have d1 := (hbr.cell (p := ⟨b, off + k * 2 + 1, none⟩) (by show b < B; omega)).trans c1
      have hwop := op_wrap (HN.out k hlt)
      have hn6 := HI.out _ (List.getElem_mem hlt)
      have htk := take_flat (f := enI) p.code k hlt
      have hlen := G1.out k
      generalize p.code[k] = x at *
      obtain ⟨op, n⟩ := x
      dsimp only at d0 d1 hwop hn6
      obtain ⟨l, hl⟩ : ∃ l, l = prg1 p ++ (p.code.take k).flatMap enI := ⟨_, rfl⟩
      rw [← hl] at hby
      have hll : l.length ≤ 100000 := by rw [hl, List.length_append]; have := HL1.out; omega
      have HTK : Hid (l ++ enI ⟨op, n⟩ = prg1 p ++ (p.code.take (k + 1)).flatMap enI) := by show _ = _; rw [hl, htk, List.append_assoc]
      have hPr := hby.out.lt
      have hBx := hby.out.alloc (.cells #[.int .i64 op, .int .i64 n] 71)
      have hhx := heap_new wr #[.int .i64 op, .int .i64 n] 71
      have hcx : ∀ j, (wr.alloc (.cells #[.int .i64 op, .int .i64 n] 71)).cell? ⟨wr.heap.size, j, none⟩ = #[.int .i64 op, .int .i64 n][j]? := fun j => World.cell?_alloc_at (w := wr) _ _ wr.heap.size j rfl
      have hbx : Below B w1 (wr.alloc (.cells #[.int .i64 op, .int .i64 n] 71)) := hbr.alloc (by omega) _
      have hsx := size_alloc wr (.cells #[.int .i64 op, .int .i64 n] 71)
      have HN6 := Lib.hid hn6
      have HHX := Lib.hid hhx
      have HCX := Lib.hid hcx
      clear c0 c1 htk hlen hl hn6 hhx hcx
      go_wp2
      generalize wr.alloc (.cells #[.int .i64 op, .int .i64 n] 71) = Wb at *
      obtain ⟨v, cb, eb, fb, hh, heb, e0, f0, hown⟩ := hBx
      obtain ⟨av, cv, rfl⟩ := own_shape hown
      have HOWN := Lib.hid hown
      have HH := Lib.hid hh
      have HE := Lib.hid heb
      have HC0 := Lib.hid e0
      have HF0 := Lib.hid f0
      have hPz := heap_lt hh
      have hneP : wr.heap.size ≠ P := by omega
      have hx0 : Wb.cell? ⟨wr.heap.size, 0, none⟩ = some (.int .i64 op) := HCX.out 0
      have HBX := Lib.hid hbx
      have hzBb : B ≤ Wb.heap.size := by omega
      have hxz : wr.heap.size < Wb.heap.size := by omega
      have HXZ := Lib.hid hxz
      have HSX := Lib.hid hsx
      clear hown hh heb hbx hsx d0 d1
      go_region_law (first | (refine step_append_lies _ (by rfl) _ _ _ (by rfl) B 5 i0 (.int .u8 0) 1 1 Try.underlying66 hi hz0 hz1 hz2 rfl (by decide) (.slice av l.length cv) l.length (l.flatMap encB) (by rfl) ((HOWN.out.alloc _).drew) ⟨Wb.heap.size, 0, none⟩ 1 1 (encB op) (by rfl) (by rfl) (cells_at _ _ _ _ _ rfl rfl) (by intro u hu; simp [encB] at hu; subst hu; rfl) (by omega) (by unfold maxLen; omega) (by omega) (Nat.le_of_lt (Nat.lt_of_lt_of_eq (show B < Wb.heap.size + 1 by omega) (size_alloc _ _).symm)) (Wb.heap.size + 1) (size_alloc _ _) ?_; intro gg cap w2' hown1 hgrow hat hltg; have hAA := ((Below.refl Wb.heap.size Wb).alloc (Nat.le_refl _) (.cells #[.int .u8 op] 5)).drew; obtain ⟨y0, y1, y2⟩ := by_box HOWN.out HH.out HE.out HC0.out HF0.out hAA hgrow; have HST := Lib.hid (by_step hBP HOWN.out HH.out HE.out HC0.out HF0.out hAA hgrow rfl (own_snocG hown1)); clear hown1 hgrow hat hAA))
      all_goals
        have HBL := Lib.hid HST.out.1
        have hkx := HST.out.2.1.cell (j := 0) HHX.out (by decide) hneP
        have hky := HST.out.2.1.cell (j := 1) HHX.out (by decide) hneP
        have x0' := hkx.trans (HCX.out 0)
        have x1' := hky.trans (HCX.out 1)
        have hbW := HBX.out.trans HST.out.2.2
        have hzW := Nat.lt_of_lt_of_le HXZ.out HST.out.2.2.size
        clear hkx hky y0 y1 y2 HST hx0
        generalize w2'.setCell ⟨P, 0, none⟩ (.slice (some ⟨gg, 0, none⟩) (l.length + 1) cap) = W2 at *
        by_cases hbar : barB op = true
        · have HREL : Hid (ByAt W2 P B (prg1 p ++ (p.code.take (k + 1)).flatMap enI)) := by
            show ByAt _ _ _ _
            rw [← HTK.out]
            unfold enI
            rw [if_pos hbar]
            exact HBL.out
          have HBAR := Lib.hid hbar
          clear hbar HBL
          go_wp2_with (go_at_call 89; refine (bare_lit _ _ _ HBAR.out).mono ?_; rintro e w' ⟨rfl, rfl⟩)
          go_roundw
          case rel => exact ⟨k + 1, by omega, by go_num, HREL, hbW⟩
          case measure => simp [intOf]; omega
        · have hbar' : barB op = false := by simpa using hbar
          have HBAR := Lib.hid hbar'
          clear hbar hbar'
          go_wp2_with (first | (go_at_call 89; refine (bare_lit _ _ _ HBAR.out).mono ?_; rintro e w' ⟨rfl, rfl⟩) | (go_at_call 88; refine (wnum_any P B (l ++ [op]) n _ hBP HBL.out.to0 HN6.out (by rw [List.length_append]; simp; omega)).mono ?_; rintro e w3 ⟨rfl, hby3, hkp3, hbr3⟩; have HBY3 := Lib.hid hby3; clear hby3 hkp3))
          have HREL : Hid (ByAt w3 P B (prg1 p ++ (p.code.take (k + 1)).flatMap enI)) := by
            show ByAt _ _ _ _
            rw [← HTK.out]
            unfold enI
            rw [if_neg (by rw [HBAR.out]; simp), show l ++ op :: zb n = (l ++ [op]) ++ zb n from by simp]
            exact HBY3.out
          go_roundw
          case rel => exact ⟨k + 1, by omega, by go_num, HREL, hbW.trans hbr3⟩
          case measure => simp [intOf]; omega
    · have hkn : k = p.code.length := by omega
      have HB2 : Hid (ByAt wr P B (prg1 p ++ p.code.flatMap enI)) := by
        show ByAt _ _ _ _
        have := hby.out
        rw [hkn, List.take_length] at this
        exact this
      have r1 := (hbr.cell (p := ⟨w.heap.size, 1, none⟩) hzB).trans q1
      have r0 := (hbr.cell (p := ⟨w.heap.size, 0, none⟩) hzB).trans q0
      have hLa : (prg1 p ++ p.code.flatMap enI).length ≤ 100000 := by
        have := HL2.out
        unfold prg2 at this
        simp only [List.length_append] at this ⊢
        omega
      clear hkn hby
      go_wp2_with fail
      refine (wnum_any P B _ p.pool.length _ hBP HB2.out.to0 HP66.out (by omega)).mono ?_; rintro e w3 ⟨rfl, hby3, hkp3, hbr3⟩
      have HBY3 : Hid (ByAt w3 P B (prg2 p ++ (p.pool.take 0).flatMap zb)) := by
        show ByAt _ _ _ _
        rw [List.take_zero, List.flatMap_nil, List.append_nil]
        exact hby3
      have hb3 := hbr.trans hbr3
      have s1 := (hbr3.cell (p := ⟨w.heap.size, 1, none⟩) hzB).trans r1
      have hzb3 : w.heap.size < w3.heap.size := by have := hb3.size; omega
      clear hby3 hkp3 hbr hbr3 HB2 r0 r1 HBY p0 hLa
      go_wp2
      obtain ⟨wo, rfl⟩ : ∃ wo : World, wo = wr := ⟨_, rfl⟩
      go_loopw [71] (fun i wr => ∃ k : Nat, k ≤ p.pool.length ∧ i = .int .i64 k ∧ Hid (ByAt wr P B (prg2 p ++ (p.pool.take k).flatMap zb)) ∧ Below B w1 wr) (fun i _ => (p.pool.length - intOf i).toNat)
      case atStart => exact ⟨0, by omega, rfl, HBY3, hb3⟩
      case round =>
        obtain ⟨k, hk, rfl, hby, hbr⟩ := hrel
        by_cases hlt : k < p.pool.length
        · obtain ⟨b, off, rfl, hbb, c0, _⟩ := elemInt HP1.out.2.1 k hlt
          have d0 := (hbr.cell (p := ⟨b, off + k, none⟩) (by show b < B; omega)).trans c0
          have hx6 := HP6.out _ (List.getElem_mem hlt)
          have htk := take_flat (f := zb) p.pool k hlt
          have hlen := G2.out k
          generalize p.pool[k] = x at *
          have hll : (prg2 p ++ (p.pool.take k).flatMap zb).length ≤ 200000 := by rw [List.length_append]; have := HL2.out; omega
          have HX6 := Lib.hid hx6
          have HTK := Lib.hid htk
          clear c0 hx6 htk hlen
          go_wp2_with fail
          refine (wnum_any P B _ x _ hBP hby.out.to0 HX6.out (by omega)).mono ?_; rintro e w4 ⟨rfl, hby4, hkp4, hbr4⟩
          have HREL : Hid (ByAt w4 P B (prg2 p ++ (p.pool.take (k + 1)).flatMap zb)) := by
            show ByAt _ _ _ _
            rw [HTK.out, ← List.append_assoc]
            exact hby4
          clear hby4 hkp4
          go_wp2
          go_roundw
          case rel => exact ⟨k + 1, by omega, by go_num, HREL, hbr.trans hbr4⟩
          case measure => simp [intOf]; omega
        · have hkn : k = p.pool.length := by omega
          have HB2 : Hid (ByAt wr P B (prg2 p ++ p.pool.flatMap zb)) := by
            show ByAt _ _ _ _
            have := hby.out
            rw [hkn, List.take_length] at this
            exact this
          have r2 := (hbr.cell (p := ⟨w.heap.size, 2, none⟩) hzB).trans q2
          have hLa : (prg2 p ++ p.pool.flatMap zb).length ≤ 200000 := by
            have := HL3.out
            unfold prg3 at this
            simp only [List.length_append] at this ⊢
            omega
          have hzr : w.heap.size < wr.heap.size := by have := hbr.size; omega
          clear hkn hby
          go_wp2_with fail
          refine (wnum_any P B _ p.answers.length _ hBP HB2.out.to0 HA66.out (by omega)).mono ?_; rintro e w4 ⟨rfl, hby4, hkp4, hbr4⟩
          have HBY4 : Hid (ByAt w4 P B (prg3 p ++ (p.answers.take 0).flatMap enA)) := by
            show ByAt _ _ _ _
            rw [List.take_zero, List.flatMap_nil, List.append_nil]
            exact hby4
          have hb4 := hbr.trans hbr4
          have s2 := (hbr4.cell (p := ⟨w.heap.size, 2, none⟩) hzB).trans r2
          have hzb4 : w.heap.size < w4.heap.size := by have := hb4.size; omega
          clear hby4 hkp4 hbr hbr4 HB2 r2 HBY3 s1 hLa hzr
          go_wp2
          obtain ⟨wo, rfl⟩ : ∃ wo : World, wo = wr := ⟨_, rfl⟩
          go_loopw [87] (fun i wr => ∃ k : Nat, k ≤ p.answers.length ∧ i = .int .i64 k ∧ Hid (ByAt wr P B (prg3 p ++ (p.answers.take k).flatMap enA)) ∧ Below B w1 wr) (fun i _ => (p.answers.length - intOf i).toNat)
          case atStart => exact ⟨0, by omega, rfl, HBY4, hb4⟩
          case round =>
            obtain ⟨k, hk, rfl, hby, hbr⟩ := hrel
            by_cases hlt : k < p.answers.length
            · obtain ⟨b, off, vo, rfl, hbb, ⟨c0, c1, c2, c3, c4⟩, hvo, hnm, _, _⟩ := elemAns HP1.out.2.2 k hlt
              obtain ⟨ao, co, rfl, lo⟩ := hvo.shape
              have d0 := (hbr.cell (p := ⟨b, off + k * 5, none⟩) (by show b < B; omega)).trans c0
              have d1 := (hbr.cell (p := ⟨b, off + k * 5 + 1, none⟩) (by show b < B; omega)).trans c1
              have d2 := (hbr.cell (p := ⟨b, off + k * 5 + 2, none⟩) (by show b < B; omega)).trans c2
              have d3 := (hbr.cell (p := ⟨b, off + k * 5 + 3, none⟩) (by show b < B; omega)).trans c3
              have d4 := (hbr.cell (p := ⟨b, off + k * 5 + 4, none⟩) (by show b < B; omega)).trans c4
              have hx := HA6.out _ (List.getElem_mem hlt)
              have hxe := ansE_offs (HAE.out _ (List.getElem_mem hlt))
              have htk := take_flat (f := enA) p.answers k hlt
              have hlen := G3.out k
              generalize p.answers[k] = x at *
              obtain ⟨⟨xo, xs, xn⟩, offs, xj⟩ := x
              dsimp only at d0 d1 d2 d3 d4 hx hxe hvo lo
              obtain ⟨hx1, hx2, hx3⟩ := hx
              obtain ⟨ho6, hn24⟩ := hxe
              obtain ⟨l, hl⟩ : ∃ l, l = prg3 p ++ (p.answers.take k).flatMap enA := ⟨_, rfl⟩
              rw [← hl] at hby
              have hll : l.length ≤ 468000 := by rw [hl, List.length_append]; have := HL3.out; omega
              have HTK : Hid (l ++ enA ⟨⟨xo, xs, xn⟩, offs, xj⟩ = prg3 p ++ (p.answers.take (k + 1)).flatMap enA) := by show _ = _; rw [hl, htk, List.append_assoc]
              have hPr := hby.out.lt
              have hneP : wr.heap.size ≠ P := by omega
              have HBa := Lib.hid (hby.out.alloc (.cells #[.int .i64 xo, .bool xs, .string xn, .slice ao offs.length co, .int .i64 xj] 27))
              have HHX := Lib.hid (heap_new wr #[.int .i64 xo, .bool xs, .string xn, .slice ao offs.length co, .int .i64 xj] 27)
              have hbx : Below B w1 (wr.alloc (.cells #[.int .i64 xo, .bool xs, .string xn, .slice ao offs.length co, .int .i64 xj] 27)) := hbr.alloc (by omega) _
              have hcx : ∀ j, (wr.alloc (.cells #[.int .i64 xo, .bool xs, .string xn, .slice ao offs.length co, .int .i64 xj] 27)).cell? ⟨wr.heap.size, j, none⟩ = #[.int .i64 xo, .bool xs, .string xn, .slice ao offs.length co, .int .i64 xj][j]? := fun j => World.cell?_alloc_at (w := wr) _ _ wr.heap.size j rfl
              have HCX := Lib.hid hcx
              have HBX := Lib.hid hbx
              have HX1 := Lib.hid hx1
              have HX2 := Lib.hid hx2
              have HX3 := Lib.hid hx3
              have HVO := Lib.hid hvo
              have HNE := Lib.hid hneP
              have e1 := zb_len hx1
              have e3 := zb_len (sav64 xs)
              have e4 := zb_len (i64_nat xn.size (by omega))
              have e5 := zb_len (i64_nat offs.length (by omega))
              have hfo := fun j => take_le (f := zb) (c := 10) offs j (fun x hx => zb_len (hx3 x hx))
              have e7 := strL_len xn
              have HFO := Lib.hid hfo
              have hlen1 : (l ++ zb xo).length ≤ 468010 := by rw [List.length_append]; omega
              have hlen2 : (l ++ zb xo ++ zb (savI xs)).length ≤ 468020 := by rw [List.length_append]; omega
              have hlen3 : (l ++ zb xo ++ zb (savI xs) ++ zb xn.size ++ strL xn).length ≤ 468060 := by rw [List.length_append, List.length_append]; omega
              have hlen4 : (l ++ enH ⟨⟨xo, xs, xn⟩, offs, xj⟩).length ≤ 468080 := by unfold enH; simp only [List.length_append] at *; omega
              have HLN := Lib.hid (show _ ∧ _ ∧ _ ∧ _ from ⟨hlen1, hlen2, hlen3, hlen4⟩)
              clear c0 c1 c2 c3 c4 htk hlen hl hx1 hx2 hx3 hvo lo hbx hcx hneP e1 e3 e4 e5 hfo e7 hlen1 hlen2 hlen3 hlen4
              go_wp2_with fail
              refine (wnum_any P B l xo _ hBP HBa.out.to0 HX1.out (by omega)).mono ?_; rintro e w5 ⟨rfl, hby5, hkp5, hbr5⟩
              have HH5 := Lib.hid (hkp5 _ _ _ _ HHX.out (by decide) HNE.out)
              have t1 := (hkp5.cell (j := 1) HHX.out (by decide) HNE.out).trans (HCX.out 1)
              have hcx5 : ∀ j, w5.cell? ⟨wr.heap.size, j, none⟩ = #[.int .i64 xo, .bool xs, .string xn, .slice ao offs.length co, .int .i64 xj][j]? := fun j => (hkp5.cell (j := j) HHX.out (by decide) HNE.out).trans (HCX.out j)
              have HC5 := Lib.hid hcx5
              have HB5 := Lib.hid hby5
              have hb5 := HBX.out.trans hbr5
              clear hby5 hkp5 hbr5 hcx5 d0 d1 d2 d3 d4
              go_upto_if 98 with fail
              go_cut [14] (fun s14 wx => s14 = .int .i64 (savI xs) ∧ w5 = wx)
              case first =>
                cases xs
                · go_wp2
                  go_meet
                  exact ⟨rfl, rfl⟩
                · go_wp2
                  go_meet
                  exact ⟨rfl, rfl⟩
              case rest =>
                obtain ⟨rfl, rfl⟩ := hcut
                have S6 := Lib.hid (sav64 xs)
                obtain ⟨sx, hsx⟩ : ∃ s, s = savI xs := ⟨_, rfl⟩
                rw [← hsx] at S6 HLN ⊢
                have HSX := Lib.hid hsx
                clear hsx t1
                go_wp2_with fail
                refine (wnum_any P B (l ++ zb xo) sx _ hBP HB5.out.to0 S6.out (by have := HLN.out.1; omega)).mono ?_; rintro e w6 ⟨rfl, hby6, hkp6, hbr6⟩
                have HH6 := Lib.hid (hkp6 _ _ _ _ HH5.out (by decide) HNE.out)
                have hcx6 : ∀ j, w6.cell? ⟨wr.heap.size, j, none⟩ = #[.int .i64 xo, .bool xs, .string xn, .slice ao offs.length co, .int .i64 xj][j]? := fun j => (hkp6.cell (j := j) HH5.out (by decide) HNE.out).trans (HC5.out j)
                have t2 : w6.cell? ⟨wr.heap.size, 2, none⟩ = some (.string xn) := hcx6 2
                have HC6' := Lib.hid hcx6
                have HB6 := Lib.hid hby6
                have hb6 := hb5.trans hbr6
                clear hby6 hkp6 hbr6 hcx6
                go_wp2_with fail
                refine (wtext_any P B (l ++ zb xo ++ zb sx) xn _ hBP HB6.out (by omega) (by have := HLN.out.2.1; omega)).mono ?_; rintro e w7 ⟨rfl, hby7, hkp7, hbr7⟩
                have HH7 := Lib.hid (hkp7 _ _ _ _ HH6.out (by decide) HNE.out)
                have hcx7 : ∀ j, w7.cell? ⟨wr.heap.size, j, none⟩ = #[.int .i64 xo, .bool xs, .string xn, .slice ao offs.length co, .int .i64 xj][j]? := fun j => (hkp7.cell (j := j) HH6.out (by decide) HNE.out).trans (HC6'.out j)
                have t3 : w7.cell? ⟨wr.heap.size, 3, none⟩ = some (.slice ao offs.length co) := hcx7 3
                have HC7 := Lib.hid hcx7
                have HB7 := Lib.hid hby7
                have hb7 := hb6.trans hbr7
                clear hby7 hkp7 hbr7 hcx7 t2
                go_wp2_with fail
                refine (wnum_any P B (l ++ zb xo ++ zb sx ++ zb xn.size ++ strL xn) offs.length _ hBP HB7.out.to0 (i64_nat _ (by omega)) (by have := HLN.out.2.2.1; omega)).mono ?_; rintro e w8 ⟨rfl, hby8, hkp8, hbr8⟩
                have HH8 := Lib.hid (hkp8 _ _ _ _ HH7.out (by decide) HNE.out)
                have hcx8 : ∀ j, w8.cell? ⟨wr.heap.size, j, none⟩ = #[.int .i64 xo, .bool xs, .string xn, .slice ao offs.length co, .int .i64 xj][j]? := fun j => (hkp8.cell (j := j) HH7.out (by decide) HNE.out).trans (HC7.out j)
                have t4 : w8.cell? ⟨wr.heap.size, 3, none⟩ = some (.slice ao offs.length co) := hcx8 3
                have HC8 := Lib.hid hcx8
                have HB8 : Hid (ByAt w8 P B (l ++ enH ⟨⟨xo, xs, xn⟩, offs, xj⟩ ++ (offs.take 0).flatMap zb)) := by
                  show ByAt _ _ _ _
                  rw [List.take_zero, List.flatMap_nil, List.append_nil]
                  unfold enH
                  dsimp only
                  rw [← HSX.out]
                  simp only [← List.append_assoc]
                  exact hby8
                have hb8 := hb7.trans hbr8
                clear hby8 hkp8 hbr8 hcx8 t3
                go_wp2
                obtain ⟨wo2, rfl⟩ : ∃ wo2 : World, wo2 = wr := ⟨_, rfl⟩
                go_loopw [115] (fun i wq => ∃ j : Nat, j ≤ offs.length ∧ i = .int .i64 j ∧ Hid (ByAt wq P B (l ++ enH ⟨⟨xo, xs, xn⟩, offs, xj⟩ ++ (offs.take j).flatMap zb)) ∧ Hid (Kp P w8 wq) ∧ Below B w1 wq) (fun i _ => (offs.length - intOf i).toNat)
                case atStart => exact ⟨0, by omega, rfl, HB8, Kp.refl _ _, hb8⟩
                case round =>
                  obtain ⟨j, hj, rfl, hbyj, hkpj, hbrj⟩ := hrel
                  by_cases hjl : j < offs.length
                  · obtain ⟨b5, o5, rfl, hb5b, f0, _⟩ := elemInt HVO.out j hjl
                    have f1 := (hbrj.cell (p := ⟨b5, o5 + j, none⟩) (by show b5 < B; omega)).trans f0
                    have hy6 := HX3.out _ (List.getElem_mem hjl)
                    have htk := take_flat (f := zb) offs j hjl
                    have hfl := HFO.out j
                    generalize offs[j] = y at *
                    have hlj : (l ++ enH ⟨⟨xo, xs, xn⟩, offs, xj⟩ ++ (offs.take j).flatMap zb).length ≤ 468200 := by rw [List.length_append]; have := HLN.out.2.2.2; omega
                    have HY6 := Lib.hid hy6
                    have HTJ := Lib.hid htk
                    clear f0 hy6 htk hfl
                    go_wp2_with fail
                    refine (wnum_any P B _ y _ hBP hbyj.out.to0 HY6.out (by omega)).mono ?_; rintro e w9 ⟨rfl, hby9, hkp9, hbr9⟩
                    have HREL : Hid (ByAt w9 P B (l ++ enH ⟨⟨xo, xs, xn⟩, offs, xj⟩ ++ (offs.take (j + 1)).flatMap zb)) := by
                      show ByAt _ _ _ _
                      rw [HTJ.out, ← List.append_assoc]
                      exact hby9
                    have HKJ := Lib.hid (hkpj.out.trans hkp9)
                    clear hby9 hkp9
                    go_wp2
                    go_roundw
                    case rel => exact ⟨j + 1, by omega, by go_num, HREL, HKJ, hbrj.trans hbr9⟩
                    case measure => simp [intOf]; omega
                  · have hjn : j = offs.length := by omega
                    have HB9 : Hid (ByAt wr P B (l ++ enH ⟨⟨xo, xs, xn⟩, offs, xj⟩ ++ offs.flatMap zb)) := by
                      show ByAt _ _ _ _
                      have := hbyj.out
                      rw [hjn, List.take_length] at this
                      exact this
                    have t5 : wr.cell? ⟨wo2.heap.size, 4, none⟩ = some (.int .i64 xj) := (hkpj.out.cell (j := 4) HH8.out (by decide) HNE.out).trans (HC8.out 4)
                    have hl9 : (l ++ enH ⟨⟨xo, xs, xn⟩, offs, xj⟩ ++ offs.flatMap zb).length ≤ 468200 := by
                      have h1 := HFO.out offs.length
                      rw [List.take_length] at h1
                      rw [List.length_append]; have := HLN.out.2.2.2; omega
                    clear hjn hbyj
                    go_wp2_with fail
                    refine (wnum_any P B _ xj _ hBP HB9.out.to0 HX2.out (by omega)).mono ?_; rintro e w10 ⟨rfl, hby10, hkp10, hbr10⟩
                    have HREL : Hid (ByAt w10 P B (prg3 p ++ (p.answers.take (k + 1)).flatMap enA)) := by
                      show ByAt _ _ _ _
                      rw [← HTK.out]
                      unfold enA
                      simp only [← List.append_assoc]
                      exact hby10
                    clear hby10 hkp10
                    go_wp2
                    go_roundw
                    case rel => exact ⟨k + 1, by omega, by go_num, HREL, hbrj.trans hbr10⟩
                    case measure => simp [intOf]; omega
            · have hkn : k = p.answers.length := by omega
              have HBF : Hid (ByAt wr P B (prgB p)) := by
                show ByAt _ _ _ _
                have := hby.out
                rw [hkn, List.take_length] at this
                exact this
              obtain ⟨v, cb, eb, fb, hh, heb, e0, f0, hown⟩ := HBF.out
              obtain ⟨av, cv, rfl⟩ := own_shape hown
              have hPz := heap_lt hh
              have HOWN := Lib.hid hown
              have HF := Lib.hid (hw1.trans (hbr.mono (show w.heap.size ≤ B by omega)))
              clear hkn hby hown hh heb
              go_wp2
              go_ret2
              exact ⟨_, rfl, ownsRow_base (by omega) HOWN.out, HF.out⟩
end Go.Proofs.Ytpnmaopompfalaa
