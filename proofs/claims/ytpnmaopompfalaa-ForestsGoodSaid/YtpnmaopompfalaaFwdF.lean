/-
  tree.Forward of spans that may be.
-/
import Derived.Test.YtpnmaopompfalaaLem
import Derived.Test.YtpnmaopompfalaaFwdE
namespace Go.Proofs.Ytpnmaopompfalaa
set_option linter.unusedVariables false
set_option linter.unusedSimpArgs false
open Go.ChangeShapes Go.WideShapes Go.ChangeAt Go.RowKit

/-- behind the first append of a round. -/
theorem fwd_mid {w1 wr u1 : World} {o1 o2 : Obj} {ps va v0 v1 : Value} {P : List Pc} {A : List Ans} (hps : wr.ownsRow (w1.heap.size + 1) 89 2 ps P.length (P.flatMap encP)) (hva : wr.ownsRow (w1.heap.size + 1) 27 5 va A.length (A.flatMap encA0)) (hsz : w1.heap.size + 1 ≤ wr.heap.size)
    (hg : ((wr.alloc o1).alloc o2).grownBy u1 va.ownBlock) (c0 : wr.cell? ⟨w1.heap.size, 0, none⟩ = some v0) (c1 : wr.cell? ⟨w1.heap.size, 1, none⟩ = some v1) (f5 : ∀ j, wr.frozen? ⟨w1.heap.size, j, none⟩ = false) (hbr : Below w1.heap.size w1 wr) :
    (∀ j, u1.cell? ⟨wr.heap.size, j, none⟩ = (wr.alloc o1).cell? ⟨wr.heap.size, j, none⟩) ∧ u1.cell? ⟨w1.heap.size, 0, none⟩ = some v0 ∧ u1.cell? ⟨w1.heap.size, 1, none⟩ = some v1 ∧ (∀ j, u1.frozen? ⟨w1.heap.size, j, none⟩ = false) ∧ (wr.heap.size + 1 < u1.heap.size ∧ Below w1.heap.size w1 u1) ∧ u1.ownsRow (w1.heap.size + 1) 89 2 ps P.length (P.flatMap encP) := by
  have hs1 := size_alloc wr o1
  have hs2 := size_alloc (wr.alloc o1) o2
  have hB := append_keep hva (below_alloc2 hsz o1 o2) hsz hg
  have hle := hg.size
  refine ⟨fun j => ?_, (hB.cell (p := ⟨w1.heap.size, 0, none⟩) (Nat.lt_succ_self _)).trans c0, (hB.cell (p := ⟨w1.heap.size, 1, none⟩) (Nat.lt_succ_self _)).trans c1, fun j => (hB.frozen (p := ⟨w1.heap.size, j, none⟩) (Nat.lt_succ_self _)).trans (f5 j), ⟨by omega, hbr.trans (hB.mono (Nat.le_succ _))⟩, ?_⟩
  · have hne : some wr.heap.size ≠ va.ownBlock := by
      intro e
      have := (hva.lt wr.heap.size e.symm).2
      omega
    rw [grown_cell hg (by omega) hne]
    exact ((Below.refl (wr.alloc o1).heap.size _).alloc (Nat.le_refl _) _).cell (p := ⟨wr.heap.size, j, none⟩) (by rw [hs1]; exact Nat.lt_succ_self _)
  · exact ((hps.alloc o1).alloc o2).kept hg (own_apart hps hva (by decide))
/-- behind the second append of a round. -/
theorem fwd_end {w1 wr u1 u2 : World} {o : Obj} {ps v0 v1 v1' : Value} {P : List Pc} {A : List Ans} (hps : u1.ownsRow (w1.heap.size + 1) 89 2 ps P.length (P.flatMap encP)) (hva : u1.ownsRow (w1.heap.size + 1) 27 5 v1' A.length (A.flatMap encA0))
    (c0 : u1.cell? ⟨w1.heap.size, 0, none⟩ = some v0) (c1 : u1.cell? ⟨w1.heap.size, 1, none⟩ = some v1) (f5 : ∀ j, u1.frozen? ⟨w1.heap.size, j, none⟩ = false) (hz : wr.heap.size + 1 < u1.heap.size ∧ Below w1.heap.size w1 u1)
    (hg : ((u1.setCell ⟨w1.heap.size, 1, none⟩ v1').alloc o).grownBy u2 ps.ownBlock) :
    u2.cell? ⟨w1.heap.size, 0, none⟩ = some v0 ∧ u2.cell? ⟨w1.heap.size, 1, none⟩ = some v1' ∧ (∀ j, u2.frozen? ⟨w1.heap.size, j, none⟩ = false) ∧ (w1.heap.size + 1 ≤ u2.heap.size ∧ Below w1.heap.size w1 u2) ∧ u2.ownsRow (w1.heap.size + 1) 27 5 v1' A.length (A.flatMap encA0) := by
  have hlt : w1.heap.size < u1.heap.size := by
    rcases Nat.lt_or_ge w1.heap.size u1.heap.size with q | q
    · exact q
    · simp [World.cell?, Array.getElem?_eq_none q] at c0
  have hs := World.size_setCell (w := u1) (a := ⟨w1.heap.size, 1, none⟩) (v := v1')
  have hps' : (u1.setCell ⟨w1.heap.size, 1, none⟩ v1').ownsRow (w1.heap.size + 1) 89 2 ps P.length (P.flatMap encP) := ownsRow_setCell_below hps (Nat.lt_succ_self _) _
  have hva' : (u1.setCell ⟨w1.heap.size, 1, none⟩ v1').ownsRow (w1.heap.size + 1) 27 5 v1' A.length (A.flatMap encA0) := ownsRow_setCell_below hva (Nat.lt_succ_self _) _
  have hB : Below (w1.heap.size + 1) (u1.setCell ⟨w1.heap.size, 1, none⟩ v1') u2 := append_keep hps' ((Below.refl _ _).alloc (by rw [hs]; omega) _) (by rw [hs]; omega) hg
  refine ⟨(hB.cell (p := ⟨w1.heap.size, 0, none⟩) (Nat.lt_succ_self _)).trans ?_, (hB.cell (p := ⟨w1.heap.size, 1, none⟩) (Nat.lt_succ_self _)).trans (World.cell?_setCell_same (h := c1) ..), fun j => (hB.frozen (p := ⟨w1.heap.size, j, none⟩) (Nat.lt_succ_self _)).trans ?_, ⟨?_, ?_⟩, (hva'.alloc o).kept hg (own_apart hva' hps' (by decide))⟩
  · rw [World.cell?_setCell_other (h := by simp)]; exact c0
  · rw [World.frozen?_setCell]; exact f5 j
  · have := hB.size; rw [hs] at this; omega
  · exact (hz.2.setCell (Nat.le_refl _) _).trans (hB.mono (Nat.le_succ _))
set_option maxRecDepth 100000 in
set_option maxHeartbeats 4000000 in
theorem forward_ok (v : Value) (xs : List Spn) (w : World) (hv : SlAt w 4 RSpn v xs) (hb : spnE xs = 0) (hn0 : 0 < xs.length) (hn1 : xs.length ≤ 1000) :
    Calls Try.prog 26 #[v] w fun e w' => ∃ vn va, e = .returned (.tuple #[.agg #[vn, va], .int .i64 0]) ∧ w'.ownsRow w.heap.size 84 5 vn (chN (pcs xs)).length ((chN (pcs xs)).flatMap encN) ∧ w'.ownsRow w.heap.size 27 5 va (xs.map ansOf).length ((xs.map ansOf).flatMap encA0) ∧ Below w.heap.size w w' := by
  obtain ⟨an, cn, rfl, ln⟩ := hv.shape
  obtain ⟨ia, hia, hza0, hza1, hza2⟩ := info_parts info_ans
  obtain ⟨ip, hip, hzp0, hzp1, hzp2⟩ := info_parts info_pc
  have hx1 : (xs.length : Int) ≤ 1000 := by omega
  have HV := Lib.hid hv
  have bw : Below w.heap.size w (w.alloc (.cells #[.slice none 0 0, .slice none 0 0] 34)) := (Below.refl _ _).alloc (Nat.le_refl _) _
  have HS := Lib.hid (size_alloc w (.cells #[.slice none 0 0, .slice none 0 0] 34))
  have HB0 : Hid (∀ j, (w.alloc (.cells #[.slice none 0 0, .slice none 0 0] 34)).cell? ⟨w.heap.size, j, none⟩ = #[Value.slice none 0 0, .slice none 0 0][j]?) := fun j => World.cell?_alloc_at (w := w) _ _ w.heap.size j rfl
  have HG0 : Hid (∀ j, (w.alloc (.cells #[.slice none 0 0, .slice none 0 0] 34)).frozen? ⟨w.heap.size, j, none⟩ = false) := fun j => World.frozen?_alloc_at (w := w) _ _ w.heap.size j rfl
  have HR := Lib.hid hb
  clear hv hb ln
  go_enter Try.func26, Try.ntmps26
  go_wp2_with fail
  refine (checkSpans_any _ xs _ (HV.out.mono bw fun _ _ h => h)).mono ?_; rintro e w1 ⟨rfl, hb1⟩
  have hlt : w.heap.size < (w.alloc (.cells #[.slice none 0 0, .slice none 0 0] 34)).heap.size := by rw [HS.out]; omega
  have q0 : w1.cell? ⟨w.heap.size, 0, none⟩ = some (.slice none 0 0) := (hb1.cell (p := ⟨w.heap.size, 0, none⟩) hlt).trans (HB0.out 0)
  have q1 : w1.cell? ⟨w.heap.size, 1, none⟩ = some (.slice none 0 0) := (hb1.cell (p := ⟨w.heap.size, 1, none⟩) hlt).trans (HB0.out 1)
  have f1 : ∀ j, w1.frozen? ⟨w.heap.size, j, none⟩ = false := fun j => (hb1.frozen (p := ⟨w.heap.size, j, none⟩) hlt).trans (HG0.out j)
  have hz : w.heap.size < w1.heap.size := Nat.lt_of_lt_of_le hlt hb1.size
  have hbw := bw.trans (hb1.mono (Nat.le_of_lt hlt))
  have Q0 := Lib.hid q0
  have Q1 := Lib.hid q1
  have F1 := Lib.hid f1
  rw [HR.out]
  have HV1 := Lib.hid (HV.out.mono hbw fun _ _ h => h)
  clear hb1 HS HB0 HG0 hlt bw q0 q1 f1
  go_wp2
  have hs2 := size_alloc w1 (.cells #[.slice none 0 0, .slice none 0 0] 34)
  have e0 : ∀ j, (w1.alloc (.cells #[.slice none 0 0, .slice none 0 0] 34)).cell? ⟨w1.heap.size, j, none⟩ = _ := fun j => World.cell?_alloc_at (w := w1) _ _ w1.heap.size j rfl
  have g0 : ∀ j, (w1.alloc (.cells #[.slice none 0 0, .slice none 0 0] 34)).frozen? ⟨w1.heap.size, j, none⟩ = false := fun j => World.frozen?_alloc_at (w := w1) _ _ w1.heap.size j rfl
  have bw2 : Below w1.heap.size w1 (w1.alloc (.cells #[.slice none 0 0, .slice none 0 0] 34)) := (Below.refl _ _).alloc (Nat.le_refl _) _
  generalize w1.alloc (.cells #[.slice none 0 0, .slice none 0 0] 34) = W2 at *
  have HS2 := Lib.hid hs2
  have E0 := Lib.hid e0
  have G0 := Lib.hid g0
  clear hs2 e0 g0
  go_loopw [6, 18] (fun ps i wr => ∃ (k : Nat) (P : List Pc) (A : List Ans), k ≤ xs.length ∧ i = .int .i64 k ∧ Hid (P = (pcs xs).take k ∧ A = (xs.map ansOf).take k) ∧ Hid (wr.ownsRow (w1.heap.size + 1) 89 2 ps P.length (P.flatMap encP)) ∧ (∃ va, wr.cell? ⟨w1.heap.size, 1, none⟩ = some va ∧ Hid (wr.ownsRow (w1.heap.size + 1) 27 5 va A.length (A.flatMap encA0))) ∧ wr.cell? ⟨w1.heap.size, 0, none⟩ = some (.slice none 0 0) ∧ Hid (∀ j, wr.frozen? ⟨w1.heap.size, j, none⟩ = false) ∧ Below w1.heap.size w1 wr ∧ w1.heap.size + 1 ≤ wr.heap.size) (fun _ i _ => (xs.length - intOf i).toNat)
  case atStart => exact ⟨0, [], [], by omega, rfl, ⟨rfl, rfl⟩, (by show World.ownsRow _ _ _ _ _ _ _; exact World.ownsRow_nil _ _ _ _), ⟨_, E0.out 1, (by show World.ownsRow _ _ _ _ _ _ _; exact World.ownsRow_nil _ _ _ _)⟩, E0.out 0, G0, bw2, by rw [HS2.out]; exact Nat.le_refl _⟩
  case round =>
    obtain ⟨k, P, A, hk, rfl, hPA, hps, ⟨va, c1, hva⟩, c0, hfz, hbr, hsz⟩ := hrel
    have f5 := hfz.out
    have hz5 : w1.heap.size < wr.heap.size := by omega
    obtain ⟨ap, cp, rfl⟩ := own_shape hps.out
    obtain ⟨av, cv, rfl⟩ := own_shape hva.out
    by_cases hlt : k < xs.length
    · obtain ⟨b, off, rfl, hbb, ⟨d0, d1, d2, d3⟩, _, _, hnm⟩ := elemSpn HV1.out k hlt
      have hnm' := maxLen_eq _ hnm
      have m0 := (hbr.cell (p := ⟨b, off + k * 4, none⟩) hbb).trans d0
      have m1 := (hbr.cell (p := ⟨b, off + k * 4 + 1, none⟩) hbb).trans d1
      have m2 := (hbr.cell (p := ⟨b, off + k * 4 + 2, none⟩) hbb).trans d2
      have m3 := (hbr.cell (p := ⟨b, off + k * 4 + 3, none⟩) hbb).trans d3
      have TP := Lib.hid (take_pcs xs k hlt)
      have TA := Lib.hid (take_ans xs k hlt)
      have LP : P.length = k := by rw [hPA.out.1, List.length_take, pcs_len]; omega
      have LA : A.length = k := by rw [hPA.out.2, List.length_take, List.length_map]; omega
      have HLP := Lib.hid LP
      have HLA := Lib.hid LA
      clear d0 d1 d2 d3 LP LA hnm
      generalize xs[k] = x at *
      go_wp2_with (first | (at_builtin; refine wpList_append_own _ rfl (.tmp 24) (.tmp 28) 32 rfl (w1.heap.size + 1) 27 ia (.agg #[.int .i64 0, .bool false, .string ⟨#[]⟩, .slice none 0 0, .int .i64 0]) 5 64 Try.underlying32 hia hza0 hza1 hza2 rfl (by decide) _ _ _ rfl ((hva.out.alloc _).alloc _) ⟨wr.heap.size + 1, 0, none⟩ 1 1 (encA0 (ansOf x)) rfl rfl (cells_at _ _ _ _ _ (size_alloc _ _).symm rfl) (encA0_one _) (by rw [HLA.out]; unfold maxLen; omega) (by rw [HLA.out]; omega) (by rw [size_alloc, size_alloc]; omega) ?_; intro v1 u1 hown1 hgrow1 _; obtain ⟨a1, k1, rfl⟩ := own_shape hown1; obtain ⟨s0, s1, s2, s3, s4, s5⟩ := fwd_mid hps.out hva.out hsz hgrow1 c0 c1 f5 hbr; have HP1 := Lib.hid s5; have HA1 := Lib.hid (own_snocG hown1); clear hgrow1 hown1 s5 c0 c1 f5 hfz) | (at_builtin; refine wpList_append_own _ rfl (.tmp 31) (.tmp 36) 85 rfl (w1.heap.size + 1) 89 ip (.agg #[.int .i64 0, .int .i64 0]) 2 16 Try.underlying85 hip hzp0 hzp1 hzp2 rfl (by decide) _ _ _ rfl ((ownsRow_setCell_below HP1.out (Nat.lt_succ_self _) _).alloc _) ⟨u1.heap.size, 0, none⟩ 1 1 (encP ⟨x.fr, k⟩) rfl rfl (cells_at _ _ _ _ _ (World.size_setCell ..).symm rfl) (encP_one _) (by rw [HLP.out]; unfold maxLen; omega) (by rw [HLP.out]; omega) (by rw [size_alloc, World.size_setCell]; omega) ?_; intro v2 u2 hown2 hgrow2 _; obtain ⟨a2, k2, rfl⟩ := own_shape hown2; obtain ⟨r0, r1, r2, r3, r4⟩ := fwd_end HP1.out HA1.out s1 s2 s3 s4 hgrow2; have HP2 := Lib.hid (own_snocG hown2); have HA2 := Lib.hid r4; clear hgrow2 hown2 r4 s0 s1 s2 s3 s4))
      have HPA : Hid (P ++ [⟨x.fr, k⟩] = (pcs xs).take (k + 1) ∧ A ++ [ansOf x] = (xs.map ansOf).take (k + 1)) := ⟨by rw [TP.out, hPA.out.1], by rw [TA.out, hPA.out.2]⟩
      have R2 := Lib.hid r2
      clear r2
      go_roundw
      case rel => exact ⟨k + 1, _, _, by omega, by go_num, HPA, HP2, ⟨_, r1, HA2⟩, r0, R2, r3.2, r3.1⟩
      case measure => simp [intOf]; omega
    · have hkx : k = xs.length := by omega
      have eP : P = pcs xs := by rw [hPA.out.1, hkx]; exact List.take_of_length_le (by rw [pcs_len]; exact Nat.le_refl _)
      have eA : A = xs.map ansOf := by rw [hPA.out.2, hkx]; exact List.take_of_length_le (by rw [List.length_map]; exact Nat.le_refl _)
      clear hkx
      subst eP eA
      have hSP : Hid (SlAt wr 2 RPc (.slice ap (pcs xs).length cp) (pcs xs)) := slAt_of_own (by omega) (fun _ => rfl) (fun _ _ => rfl) hps.out
      go_wp2_with fail
      refine (chain_any _ (pcs xs) _ hSP.out (by rw [pcs_len]; exact hn0) (by rw [pcs_len]; omega)).mono ?_
      rintro e w3 ⟨vn, rfl, hvn, hb3⟩
      obtain ⟨an3, cn3, rfl⟩ := own_shape hvn
      have hva3 := Lib.hid (ownsRow_below hva.out hb3 (Nat.le_refl _))
      have HVN := Lib.hid hvn
      have i0 := (hb3.cell (p := ⟨w1.heap.size, 0, none⟩) hz5).trans c0
      have i1 := (hb3.cell (p := ⟨w1.heap.size, 1, none⟩) hz5).trans c1
      have i2 : ∀ j, w3.frozen? ⟨w1.heap.size, j, none⟩ = false := fun j => (hb3.frozen (p := ⟨w1.heap.size, j, none⟩) hz5).trans (f5 j)
      have hbr3 := hbr.trans (hb3.mono hbr.size)
      have i3 := (hbr3.cell (p := ⟨w.heap.size, 0, none⟩) hz).trans Q0.out
      have i4 := (hbr3.cell (p := ⟨w.heap.size, 1, none⟩) hz).trans Q1.out
      have i5 : ∀ j, w3.frozen? ⟨w.heap.size, j, none⟩ = false := fun j => (hbr3.frozen (p := ⟨w.heap.size, j, none⟩) hz).trans (F1.out j)
      have z3 : w1.heap.size < w3.heap.size := by have := hb3.size; omega
      have z4 : w.heap.size < w3.heap.size := by omega
      have z5 : ¬ w.heap.size = w1.heap.size := by omega
      have z6 : ¬ w1.heap.size = w.heap.size := by omega
      have z7 : w1.heap.size < wr.heap.size := hz5
      have HB3 := Lib.hid (hbw.trans (hbr3.mono (Nat.le_of_lt hz)))
      clear hb3 hbr3 hvn c0 c1 f5 hbr hfz
      go_wp2
      refine bodyPost_ret (v := .tuple #[.agg #[.slice an3 (chN (pcs xs)).length cn3, .slice av (xs.map ansOf).length cv], .int .i64 0]) (by simp [results, Try.results26, go_sem, i0, i1, i3, i4, z4, z3, z5, z6]) rfl ⟨_, _, rfl, ?_, ?_, ?_⟩
      · exact ownsRow_base (by omega) (ownsRow_setCell_below (ownsRow_setCell_below (ownsRow_setCell_below HVN.out (by show w1.heap.size < _; omega) _) (by show w.heap.size < _; omega) _) (by show w.heap.size < _; omega) _)
      · exact ownsRow_base (by omega) (ownsRow_setCell_below (ownsRow_setCell_below (ownsRow_setCell_below hva3.out (by show w1.heap.size < _; omega) _) (by show w.heap.size < _; omega) _) (by show w.heap.size < _; omega) _)
      · exact ((HB3.out.setCell (by show w.heap.size ≤ w1.heap.size; omega) _).setCell (Nat.le_refl _) _).setCell (Nat.le_refl _) _
end Go.Proofs.Ytpnmaopompfalaa
