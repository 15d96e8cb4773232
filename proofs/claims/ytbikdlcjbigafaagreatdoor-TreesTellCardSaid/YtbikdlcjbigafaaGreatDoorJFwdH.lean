/-
  tree.Forward. tree.Forward of spans that may be. The edges of spans, the window, the clock of spans at an instant. The law on tree.Forward: the plain part. · What the clock of spans shows, turned round: the plain part of tree.Inverse. · tree.Inverse: from where to where a span's clock shows something. · slices.Backward over nodes: what it hands the rounds.
-/
import Derived.RangeFuncNested
import Derived.RangeFuncBound
import Derived.RangeFuncCalls
import Derived.RangeFuncLeaves
import Derived.Shelf.Abstract
import Derived.Shelf.RegionOpen
import Derived.OwnWalkIn
import Derived.TacticsInMore
import Derived.LoopNIn
import Derived.LoopIn
import Derived.Test.YtbikdlcjbigafaaGreatDoorJTreeT
import Derived.Test.YtbikdlcjbigafaaGreatDoorJFwdA
import Derived.Test.YtbikdlcjbigafaaGreatDoorJCivT
import Derived.Test.YtbikdlcjbigafaaGreatDoorJOptP
namespace Go.Proofs.YtbikdlcjbigafaaGreatDoor
set_option linter.unusedVariables false
set_option linter.unusedSimpArgs false
open Go.ChangeShapes Go.WideShapes Go.ChangeAt Go.RowKit

def pcsF (xs : List Spn) : List Pc := xs.mapIdx fun i x => ⟨x.fr, i⟩
def ansOf (x : Spn) : Ans := ⟨x.ck, [], 0⟩
def fwdF (xs : List Spn) : Frs := ⟨chN (pcsF xs), xs.map ansOf⟩
def encA0 (x : Ans) : List Value := [.int .i64 x.ck.off, .bool x.ck.sav, .string x.ck.nm, .slice none 0 0, .int .i64 x.jump]
theorem info_ans : (Tryz.prog.info? 79).map (fun i => (i.zero, i.size, i.bytes)) = some (some (.agg #[.int .i64 0, .bool false, .string ⟨#[]⟩, .slice none 0 0, .int .i64 0]), 5, 64) := by kernel_rfl
theorem info_pc : (Tryz.prog.info? 110).map (fun i => (i.zero, i.size, i.bytes)) = some (some (.agg #[.int .i64 0, .int .i64 0]), 2, 16) := by kernel_rfl
theorem encA0_one (x : Ans) : ∀ u ∈ encA0 x, u.oneCell' = true := by
  intro u hu
  simp [encA0] at hu
  rcases hu with rfl | rfl | rfl | rfl | rfl <;> rfl
theorem pcs_len (xs : List Spn) : (pcsF xs).length = xs.length := by simp [pcsF]
theorem pcs_at (xs : List Spn) (k : Nat) (h : k < xs.length) : (pcsF xs)[k]'(by rw [pcs_len]; exact h) = ⟨xs[k].fr, k⟩ := by simp [pcsF]
theorem take_pcs (xs : List Spn) (k : Nat) (h : k < xs.length) : (pcsF xs).take (k + 1) = (pcsF xs).take k ++ [⟨xs[k].fr, k⟩] := by
  rw [take_snoc _ k (by rw [pcs_len]; exact h), pcs_at xs k h]
theorem take_ans (xs : List Spn) (k : Nat) (h : k < xs.length) : (xs.map ansOf).take (k + 1) = (xs.map ansOf).take k ++ [ansOf xs[k]] := by
  rw [take_snoc _ k (by rw [List.length_map]; exact h), List.getElem_map]
end Go.Proofs.YtbikdlcjbigafaaGreatDoor
namespace Go.Proofs.YtbikdlcjbigafaaGreatDoor
set_option linter.unusedVariables false
set_option linter.unusedSimpArgs false
open Go.ChangeShapes Go.WideShapes Go.ChangeAt Go.RowKit

/-- behind the first append of a round. -/
theorem fwd_mid {w1 wr u1 : World} {o1 o2 : Obj} {ps va v0 v1 : Value} {P : List Pc} {A : List Ans} (hps : wr.ownsRow (w1.heap.size + 1) 110 2 ps P.length (P.flatMap encP)) (hva : wr.ownsRow (w1.heap.size + 1) 79 5 va A.length (A.flatMap encA0)) (hsz : w1.heap.size + 1 ≤ wr.heap.size)
    (hg : ((wr.alloc o1).alloc o2).grownBy u1 va.ownBlock) (c0 : wr.cell? ⟨w1.heap.size, 0, none⟩ = some v0) (c1 : wr.cell? ⟨w1.heap.size, 1, none⟩ = some v1) (f5 : ∀ j, wr.frozen? ⟨w1.heap.size, j, none⟩ = false) (hbr : Below w1.heap.size w1 wr) :
    (∀ j, u1.cell? ⟨wr.heap.size, j, none⟩ = (wr.alloc o1).cell? ⟨wr.heap.size, j, none⟩) ∧ u1.cell? ⟨w1.heap.size, 0, none⟩ = some v0 ∧ u1.cell? ⟨w1.heap.size, 1, none⟩ = some v1 ∧ (∀ j, u1.frozen? ⟨w1.heap.size, j, none⟩ = false) ∧ (wr.heap.size + 1 < u1.heap.size ∧ Below w1.heap.size w1 u1) ∧ u1.ownsRow (w1.heap.size + 1) 110 2 ps P.length (P.flatMap encP) := by
  have hs1 := size_alloc wr o1
  have hs2 := size_alloc (wr.alloc o1) o2
  have hB := append_keep hva (below_alloc2 hsz o1 o2) hsz hg
  have hle := hg.size
  refine ⟨fun j => ?_, (hB.cell (p := ⟨w1.heap.size, 0, none⟩) (Nat.lt_succ_self _)).trans c0, (hB.cell (p := ⟨w1.heap.size, 1, none⟩) (Nat.lt_succ_self _)).trans c1, fun j => (hB.frozen (p := ⟨w1.heap.size, j, none⟩) (Nat.lt_succ_self _)).trans (f5 j), ⟨by omega, hbr.trans (hB.mono (Nat.le_succ _))⟩, ?_⟩
  · have hne : some wr.heap.size ≠ va.ownBlock := by
      intro e
      have := (hva.lt wr.heap.size e.symm).2
      omega
    rw [grown_cell hg (by omega) hne]
    exact ((Below.refl (wr.alloc o1).heap.size _).alloc (Nat.le_refl _) _).cell (p := ⟨wr.heap.size, j, none⟩) (by rw [hs1]; exact Nat.lt_succ_self _)
  · exact ((hps.alloc o1).alloc o2).kept hg (own_apart hps hva (by decide))
/-- behind the second append of a round. -/
theorem fwd_end {w1 wr u1 u2 : World} {o : Obj} {ps v0 v1 v1' : Value} {P : List Pc} {A : List Ans} (hps : u1.ownsRow (w1.heap.size + 1) 110 2 ps P.length (P.flatMap encP)) (hva : u1.ownsRow (w1.heap.size + 1) 79 5 v1' A.length (A.flatMap encA0))
    (c0 : u1.cell? ⟨w1.heap.size, 0, none⟩ = some v0) (c1 : u1.cell? ⟨w1.heap.size, 1, none⟩ = some v1) (f5 : ∀ j, u1.frozen? ⟨w1.heap.size, j, none⟩ = false) (hz : wr.heap.size + 1 < u1.heap.size ∧ Below w1.heap.size w1 u1)
    (hg : ((u1.setCell ⟨w1.heap.size, 1, none⟩ v1').alloc o).grownBy u2 ps.ownBlock) :
    u2.cell? ⟨w1.heap.size, 0, none⟩ = some v0 ∧ u2.cell? ⟨w1.heap.size, 1, none⟩ = some v1' ∧ (∀ j, u2.frozen? ⟨w1.heap.size, j, none⟩ = false) ∧ (w1.heap.size + 1 ≤ u2.heap.size ∧ Below w1.heap.size w1 u2) ∧ u2.ownsRow (w1.heap.size + 1) 79 5 v1' A.length (A.flatMap encA0) := by
  have hlt : w1.heap.size < u1.heap.size := by
    rcases Nat.lt_or_ge w1.heap.size u1.heap.size with q | q
    · exact q
    · simp [World.cell?, Array.getElem?_eq_none q] at c0
  have hs := World.size_setCell (w := u1) (a := ⟨w1.heap.size, 1, none⟩) (v := v1')
  have hps' : (u1.setCell ⟨w1.heap.size, 1, none⟩ v1').ownsRow (w1.heap.size + 1) 110 2 ps P.length (P.flatMap encP) := ownsRow_setCell_below hps (Nat.lt_succ_self _) _
  have hva' : (u1.setCell ⟨w1.heap.size, 1, none⟩ v1').ownsRow (w1.heap.size + 1) 79 5 v1' A.length (A.flatMap encA0) := ownsRow_setCell_below hva (Nat.lt_succ_self _) _
  have hB : Below (w1.heap.size + 1) (u1.setCell ⟨w1.heap.size, 1, none⟩ v1') u2 := append_keep hps' ((Below.refl _ _).alloc (by rw [hs]; omega) _) (by rw [hs]; omega) hg
  refine ⟨(hB.cell (p := ⟨w1.heap.size, 0, none⟩) (Nat.lt_succ_self _)).trans ?_, (hB.cell (p := ⟨w1.heap.size, 1, none⟩) (Nat.lt_succ_self _)).trans (World.cell?_setCell_same (h := c1) ..), fun j => (hB.frozen (p := ⟨w1.heap.size, j, none⟩) (Nat.lt_succ_self _)).trans ?_, ⟨?_, ?_⟩, (hva'.alloc o).kept hg (own_apart hva' hps' (by decide))⟩
  · rw [World.cell?_setCell_other (h := by simp)]; exact c0
  · rw [World.frozen?_setCell]; exact f5 j
  · have := hB.size; rw [hs] at this; omega
  · exact (hz.2.setCell (Nat.le_refl _) _).trans (hB.mono (Nat.le_succ _))
set_option maxRecDepth 100000 in
set_option maxHeartbeats 4000000 in
theorem forward_ok (v : Value) (xs : List Spn) (w : World) (hv : SlAt w 4 RSpn v xs) (hb : spnE xs = 0) (hn0 : 0 < xs.length) (hn1 : xs.length ≤ 1000) :
    Calls Tryz.prog 23 #[v] w fun e w' => ∃ vn va, e = .returned (.tuple #[.agg #[vn, va], .int .i64 0]) ∧ w'.ownsRow w.heap.size 168 5 vn (chN (pcsF xs)).length ((chN (pcsF xs)).flatMap encN) ∧ w'.ownsRow w.heap.size 79 5 va (xs.map ansOf).length ((xs.map ansOf).flatMap encA0) ∧ Below w.heap.size w w' := by
  obtain ⟨an, cn, rfl, ln⟩ := hv.shape
  obtain ⟨ia, hia, hza0, hza1, hza2⟩ := info_parts info_ans
  obtain ⟨ip, hip, hzp0, hzp1, hzp2⟩ := info_parts info_pc
  have hx1 : (xs.length : Int) ≤ 1000 := by omega
  have HV := Lib.hid hv
  have bw : Below w.heap.size w (w.alloc (.cells #[.slice none 0 0, .slice none 0 0] 74)) := (Below.refl _ _).alloc (Nat.le_refl _) _
  have HS := Lib.hid (size_alloc w (.cells #[.slice none 0 0, .slice none 0 0] 74))
  have HB0 : Hid (∀ j, (w.alloc (.cells #[.slice none 0 0, .slice none 0 0] 74)).cell? ⟨w.heap.size, j, none⟩ = #[Value.slice none 0 0, .slice none 0 0][j]?) := fun j => World.cell?_alloc_at (w := w) _ _ w.heap.size j rfl
  have HG0 : Hid (∀ j, (w.alloc (.cells #[.slice none 0 0, .slice none 0 0] 74)).frozen? ⟨w.heap.size, j, none⟩ = false) := fun j => World.frozen?_alloc_at (w := w) _ _ w.heap.size j rfl
  have HR := Lib.hid hb
  clear hv hb ln
  go_enter Tryz.func23, Tryz.ntmps23
  go_wp2_with fail
  refine (checkSpans_any _ xs _ (HV.out.mono bw fun _ _ h => h)).mono ?_; rintro e w1 ⟨rfl, hb1⟩
  have hlt : w.heap.size < (w.alloc (.cells #[.slice none 0 0, .slice none 0 0] 74)).heap.size := by rw [HS.out]; omega
  have q0 : w1.cell? ⟨w.heap.size, 0, none⟩ = some (.slice none 0 0) := (hb1.cell (p := ⟨w.heap.size, 0, none⟩) hlt).trans (HB0.out 0)
  have q1 : w1.cell? ⟨w.heap.size, 1, none⟩ = some (.slice none 0 0) := (hb1.cell (p := ⟨w.heap.size, 1, none⟩) hlt).trans (HB0.out 1)
  have f1 : ∀ j, w1.frozen? ⟨w.heap.size, j, none⟩ = false := fun j => (hb1.frozen (p := ⟨w.heap.size, j, none⟩) hlt).trans (HG0.out j)
  have hz : w.heap.size < w1.heap.size := Nat.lt_of_lt_of_le hlt hb1.size
  have hbw := bw.trans (hb1.mono (Nat.le_of_lt hlt))
  have Q0 := Lib.hid q0
  have Q1 := Lib.hid q1
  have F1 := Lib.hid f1
  rw [HR.out]
  have HV1 := Lib.hid (HV.out.mono hbw fun _ _ h => h)
  clear hb1 HS HB0 HG0 hlt bw q0 q1 f1
  go_wp2
  have hs2 := size_alloc w1 (.cells #[.slice none 0 0, .slice none 0 0] 74)
  have e0 : ∀ j, (w1.alloc (.cells #[.slice none 0 0, .slice none 0 0] 74)).cell? ⟨w1.heap.size, j, none⟩ = _ := fun j => World.cell?_alloc_at (w := w1) _ _ w1.heap.size j rfl
  have g0 : ∀ j, (w1.alloc (.cells #[.slice none 0 0, .slice none 0 0] 74)).frozen? ⟨w1.heap.size, j, none⟩ = false := fun j => World.frozen?_alloc_at (w := w1) _ _ w1.heap.size j rfl
  have bw2 : Below w1.heap.size w1 (w1.alloc (.cells #[.slice none 0 0, .slice none 0 0] 74)) := (Below.refl _ _).alloc (Nat.le_refl _) _
  generalize w1.alloc (.cells #[.slice none 0 0, .slice none 0 0] 74) = W2 at *
  have HS2 := Lib.hid hs2
  have E0 := Lib.hid e0
  have G0 := Lib.hid g0
  clear hs2 e0 g0
  go_loopw [6, 18] (fun ps i wr => ∃ (k : Nat) (P : List Pc) (A : List Ans), k ≤ xs.length ∧ i = .int .i64 k ∧ Hid (P = (pcsF xs).take k ∧ A = (xs.map ansOf).take k) ∧ Hid (wr.ownsRow (w1.heap.size + 1) 110 2 ps P.length (P.flatMap encP)) ∧ (∃ va, wr.cell? ⟨w1.heap.size, 1, none⟩ = some va ∧ Hid (wr.ownsRow (w1.heap.size + 1) 79 5 va A.length (A.flatMap encA0))) ∧ wr.cell? ⟨w1.heap.size, 0, none⟩ = some (.slice none 0 0) ∧ Hid (∀ j, wr.frozen? ⟨w1.heap.size, j, none⟩ = false) ∧ Below w1.heap.size w1 wr ∧ w1.heap.size + 1 ≤ wr.heap.size) (fun _ i _ => (xs.length - intOf i).toNat)
  case atStart => exact ⟨0, [], [], by omega, rfl, ⟨rfl, rfl⟩, (by show World.ownsRow _ _ _ _ _ _ _; exact World.ownsRow_nil _ _ _ _), ⟨_, E0.out 1, (by show World.ownsRow _ _ _ _ _ _ _; exact World.ownsRow_nil _ _ _ _)⟩, E0.out 0, G0, bw2, by rw [HS2.out]; exact Nat.le_refl _⟩
  case round =>
    obtain ⟨k, P, A, hk, rfl, hPA, hps, ⟨va, c1, hva⟩, c0, hfz, hbr, hsz⟩ := hrel
    have f5 := hfz.out
    have hz5 : w1.heap.size < wr.heap.size := by omega
    obtain ⟨ap, cp, rfl⟩ := own_shape hps.out
    obtain ⟨av, cv, rfl⟩ := own_shape hva.out
    by_cases hlt : k < xs.length
    · obtain ⟨b, off, rfl, hbb, ⟨d0, d1, d2, d3⟩, _, _, hnm⟩ := elemSpn HV1.out k hlt
      have hnm' := maxLen_eq _ hnm
      have m0 := (hbr.cell (p := ⟨b, off + k * 4, none⟩) hbb).trans d0
      have m1 := (hbr.cell (p := ⟨b, off + k * 4 + 1, none⟩) hbb).trans d1
      have m2 := (hbr.cell (p := ⟨b, off + k * 4 + 2, none⟩) hbb).trans d2
      have m3 := (hbr.cell (p := ⟨b, off + k * 4 + 3, none⟩) hbb).trans d3
      have TP := Lib.hid (take_pcs xs k hlt)
      have TA := Lib.hid (take_ans xs k hlt)
      have LP : P.length = k := by rw [hPA.out.1, List.length_take, pcs_len]; omega
      have LA : A.length = k := by rw [hPA.out.2, List.length_take, List.length_map]; omega
      have HLP := Lib.hid LP
      have HLA := Lib.hid LA
      clear d0 d1 d2 d3 LP LA hnm
      generalize xs[k] = x at *
      go_wp2_with (first | (at_builtin; refine wpList_append_own _ rfl (.tmp 24) (.tmp 28) 72 rfl (w1.heap.size + 1) 79 ia (.agg #[.int .i64 0, .bool false, .string ⟨#[]⟩, .slice none 0 0, .int .i64 0]) 5 64 Tryz.underlying72 hia hza0 hza1 hza2 rfl (by decide) _ _ _ rfl ((hva.out.alloc _).alloc _) ⟨wr.heap.size + 1, 0, none⟩ 1 1 (encA0 (ansOf x)) rfl rfl (cells_at _ _ _ _ _ (size_alloc _ _).symm rfl) (encA0_one _) (by rw [HLA.out]; unfold maxLen; omega) (by rw [HLA.out]; omega) (by rw [size_alloc, size_alloc]; omega) ?_; intro v1 u1 hown1 hgrow1 _; obtain ⟨a1, k1, rfl⟩ := own_shape hown1; obtain ⟨s0, s1, s2, s3, s4, s5⟩ := fwd_mid hps.out hva.out hsz hgrow1 c0 c1 f5 hbr; have HP1 := Lib.hid s5; have HA1 := Lib.hid (own_snocG hown1); clear hgrow1 hown1 s5 c0 c1 f5 hfz) | (at_builtin; refine wpList_append_own _ rfl (.tmp 31) (.tmp 36) 108 rfl (w1.heap.size + 1) 110 ip (.agg #[.int .i64 0, .int .i64 0]) 2 16 Tryz.underlying108 hip hzp0 hzp1 hzp2 rfl (by decide) _ _ _ rfl ((ownsRow_setCell_below HP1.out (Nat.lt_succ_self _) _).alloc _) ⟨u1.heap.size, 0, none⟩ 1 1 (encP ⟨x.fr, k⟩) rfl rfl (cells_at _ _ _ _ _ (World.size_setCell ..).symm rfl) (encP_one _) (by rw [HLP.out]; unfold maxLen; omega) (by rw [HLP.out]; omega) (by rw [size_alloc, World.size_setCell]; omega) ?_; intro v2 u2 hown2 hgrow2 _; obtain ⟨a2, k2, rfl⟩ := own_shape hown2; obtain ⟨r0, r1, r2, r3, r4⟩ := fwd_end HP1.out HA1.out s1 s2 s3 s4 hgrow2; have HP2 := Lib.hid (own_snocG hown2); have HA2 := Lib.hid r4; clear hgrow2 hown2 r4 s0 s1 s2 s3 s4))
      have HPA : Hid (P ++ [⟨x.fr, k⟩] = (pcsF xs).take (k + 1) ∧ A ++ [ansOf x] = (xs.map ansOf).take (k + 1)) := ⟨by rw [TP.out, hPA.out.1], by rw [TA.out, hPA.out.2]⟩
      have R2 := Lib.hid r2
      clear r2
      go_roundw
      case rel => exact ⟨k + 1, _, _, by omega, by go_num, HPA, HP2, ⟨_, r1, HA2⟩, r0, R2, r3.2, r3.1⟩
      case measure => simp [intOf]; omega
    · have hkx : k = xs.length := by omega
      have eP : P = pcsF xs := by rw [hPA.out.1, hkx]; exact List.take_of_length_le (by rw [pcs_len]; exact Nat.le_refl _)
      have eA : A = xs.map ansOf := by rw [hPA.out.2, hkx]; exact List.take_of_length_le (by rw [List.length_map]; exact Nat.le_refl _)
      clear hkx
      subst eP eA
      have hSP : Hid (SlAt wr 2 RPc (.slice ap (pcsF xs).length cp) (pcsF xs)) := slAt_of_own (by omega) (fun _ => rfl) (fun _ _ => rfl) hps.out
      go_wp2_with fail
      refine (chain_any _ (pcsF xs) _ hSP.out (by rw [pcs_len]; exact hn0) (by rw [pcs_len]; omega)).mono ?_
      rintro e w3 ⟨vn, rfl, hvn, hb3⟩
      obtain ⟨an3, cn3, rfl⟩ := own_shape hvn
      have hva3 := Lib.hid (ownsRow_below hva.out hb3 (Nat.le_refl _))
      have HVN := Lib.hid hvn
      have i0 := (hb3.cell (p := ⟨w1.heap.size, 0, none⟩) hz5).trans c0
      have i1 := (hb3.cell (p := ⟨w1.heap.size, 1, none⟩) hz5).trans c1
      have i2 : ∀ j, w3.frozen? ⟨w1.heap.size, j, none⟩ = false := fun j => (hb3.frozen (p := ⟨w1.heap.size, j, none⟩) hz5).trans (f5 j)
      have hbr3 := hbr.trans (hb3.mono hbr.size)
      have i3 := (hbr3.cell (p := ⟨w.heap.size, 0, none⟩) hz).trans Q0.out
      have i4 := (hbr3.cell (p := ⟨w.heap.size, 1, none⟩) hz).trans Q1.out
      have i5 : ∀ j, w3.frozen? ⟨w.heap.size, j, none⟩ = false := fun j => (hbr3.frozen (p := ⟨w.heap.size, j, none⟩) hz).trans (F1.out j)
      have z3 : w1.heap.size < w3.heap.size := by have := hb3.size; omega
      have z4 : w.heap.size < w3.heap.size := by omega
      have z5 : ¬ w.heap.size = w1.heap.size := by omega
      have z6 : ¬ w1.heap.size = w.heap.size := by omega
      have z7 : w1.heap.size < wr.heap.size := hz5
      have HB3 := Lib.hid (hbw.trans (hbr3.mono (Nat.le_of_lt hz)))
      clear hb3 hbr3 hvn c0 c1 f5 hbr hfz
      go_wp2
      refine bodyPost_ret (v := .tuple #[.agg #[.slice an3 (chN (pcsF xs)).length cn3, .slice av (xs.map ansOf).length cv], .int .i64 0]) (by simp [results, Tryz.results23, go_sem, i0, i1, i3, i4, z4, z3, z5, z6]) rfl ⟨_, _, rfl, ?_, ?_, ?_⟩
      · exact ownsRow_base (by omega) (ownsRow_setCell_below (ownsRow_setCell_below (ownsRow_setCell_below HVN.out (by show w1.heap.size < _; omega) _) (by show w.heap.size < _; omega) _) (by show w.heap.size < _; omega) _)
      · exact ownsRow_base (by omega) (ownsRow_setCell_below (ownsRow_setCell_below (ownsRow_setCell_below hva3.out (by show w1.heap.size < _; omega) _) (by show w.heap.size < _; omega) _) (by show w.heap.size < _; omega) _)
      · exact ((HB3.out.setCell (by show w.heap.size ≤ w1.heap.size; omega) _).setCell (Nat.le_refl _) _).setCell (Nat.le_refl _) _
end Go.Proofs.YtbikdlcjbigafaaGreatDoor
namespace Go.Proofs.YtbikdlcjbigafaaGreatDoor
set_option linter.unusedVariables false
set_option linter.unusedSimpArgs false
open Go.ChangeShapes Go.WideShapes Go.ChangeAt Go.RowKit

/-- the number of the span that an instant belongs to, among the first k. -/
def AtSpan (xs : List Spn) (t : Int) (k i : Nat) : Prop := i < k ∧ (∃ h : i < xs.length, i = 0 ∨ xs[i].fr ≤ t) ∧ ∀ j (h : j < xs.length), i < j → j < k → t < xs[j].fr
end Go.Proofs.YtbikdlcjbigafaaGreatDoor
namespace Go.Proofs.YtbikdlcjbigafaaGreatDoor
set_option linter.unusedVariables false
set_option linter.unusedSimpArgs false
open Go.ChangeShapes Go.WideShapes Go.ChangeAt Go.RowKit

theorem spn_good {xs : List Spn} (h : spnE xs = 0) : 0 < xs.length ∧ xs.length ≤ 1000 ∧ ∀ i (hi : i < xs.length), fsE xs i xs[i] = 0 := by
  unfold spnE at h
  by_cases h0 : xs.length = 0
  · rw [if_pos h0] at h; omega
  · rw [if_neg h0] at h
    by_cases h1 : 1000 < xs.length
    · rw [if_pos h1] at h; omega
    · rw [if_neg h1] at h
      exact ⟨by omega, by omega, fun i hi => by have := ferr_all _ _ _ h i hi; simpa using this⟩
theorem spn_riseF {xs : List Spn} (h : ∀ i (hi : i < xs.length), fsE xs i xs[i] = 0) : ∀ (d i : Nat) (hj : i + d < xs.length), xs[i].fr ≤ xs[i + d].fr
  | 0, i, hj => Int.le_refl _
  | d + 1, i, hj => by
    have ih := spn_riseF h d i (by omega)
    have h1 := (spE_zero (h (i + (d + 1)) hj)).2.2.2.2.2.1 (by omega)
    rw [prevF_at (by omega) (by omega)] at h1
    simp only [show i + (d + 1) - 1 = i + d from by omega] at h1
    omega
theorem oddB_no {n : Int} (h1 : -172800 ≤ n) (h2 : n ≤ 172800) : oddB n = false := by
  unfold oddB; rw [Bool.or_eq_false_iff, decide_eq_false_iff_not, decide_eq_false_iff_not]; omega
theorem fwd_good {xs : List Spn} (h : spnE xs = 0) : frsE (fwdF xs) = 0 := by
  obtain ⟨h0, h1, h2⟩ := spn_good h
  have hl : (chN (pcsF xs)).length = 2 * (xs.length - 1) + 1 := by
    have e := pcs_len xs
    match hp : pcsF xs with
    | [] => rw [hp] at e; simp at e; omega
    | p :: r => rw [hp] at e; rw [chN_len]; simp at e; omega
  unfold frsE fwdF
  dsimp only
  rw [if_neg (by omega), if_neg (by rw [List.length_map]; omega)]
  have ha : anssE (xs.map ansOf) = 0 := by
    refine ferr_none _ _ _ fun i hi => ?_
    rw [List.getElem_map]
    have hi' : i < xs.length := by simpa using hi
    obtain ⟨a1, a2, a3, a4, a5, _⟩ := spE_zero (h2 i hi')
    have e1 : ansBad (ansOf xs[i]) = false := by
      unfold ansBad ansOf
      simp [oddB_no a4 a5]
    have e2 : ansBig (ansOf xs[i]) = false := by
      unfold ansBig ansOf
      simp; omega
    unfold ansE
    rw [e1, e2]
    rfl
  rw [if_neg (by simpa using ha)]
  refine ferr_none _ _ _ fun i hi => ?_
  rw [Nat.zero_add]
  exact chN_good _ (pcsF xs) (fun p hp => by
    obtain ⟨j, hj, rfl⟩ := List.mem_iff_getElem.1 hp
    rw [pcs_at xs j (by rw [pcs_len] at hj; exact hj), List.length_map]
    have : j < xs.length := by rw [pcs_len] at hj; exact hj
    dsimp only
    omega) i hi
theorem fwd_lf {xs : List Spn} (h : spnE xs = 0) {t : Int} {i : Nat} (hat : AtSpan xs t xs.length i) : Lf (fwdF xs).nodes t ((fwdF xs).nodes.length - 1) i := by
  obtain ⟨h0, h1, h2⟩ := spn_good h
  obtain ⟨a1, ⟨a2, a3⟩, a4⟩ := hat
  have hi : i < (pcsF xs).length := by rw [pcs_len]; exact a1
  have := chain_lf t (pcsF xs) i hi (fun j hj hij => by
    have hj' : j < xs.length := by rw [pcs_len] at hj; exact hj
    rw [pcs_at xs j hj']; exact a4 j hj' hij hj') (fun j hj h1j hji => by
    have hj' : j < xs.length := by rw [pcs_len] at hj; exact hj
    rw [pcs_at xs j hj']
    have hr := spn_riseF h2 (i - j) j (by omega)
    simp only [show j + (i - j) = i from by omega] at hr
    rcases a3 with a3 | a3
    · omega
    · show xs[j].fr ≤ t; omega)
  rw [pcs_at xs i a1] at this
  exact this
theorem atSpan_ex (xs : List Spn) (t : Int) (h0 : 0 < xs.length) : ∀ k, 1 ≤ k → k ≤ xs.length → ∃ i, AtSpan xs t k i
  | 0, h, _ => by omega
  | 1, _, _ => ⟨0, by omega, ⟨h0, .inl rfl⟩, fun j _ a b => by omega⟩
  | k + 2, _, h => by
    by_cases c : xs[k + 1].fr ≤ t
    · exact ⟨k + 1, by omega, ⟨by omega, .inr c⟩, fun j _ a b => by omega⟩
    · obtain ⟨i, a1, a2, a3⟩ := atSpan_ex xs t h0 (k + 1) (by omega) (by omega)
      refine ⟨i, by omega, a2, fun j hj a b => ?_⟩
      by_cases e : j = k + 1
      · subst e; omega
      · exact a3 j hj a (by omega)
theorem chN_64 : ∀ (ps : List Pc), ps.length ≤ 9000 → (∀ p ∈ ps, I64 p.fr ∧ I64 p.an) → ∀ n ∈ chN ps, I64 n.an ∧ I64 n.bd ∧ I64 n.ls ∧ I64 n.mr
  | [], _, _, n, hn => by simp [chN] at hn
  | [p], _, h, n, hn => by
    obtain rfl : n = leafN p.an := by simpa [chN] using hn
    exact ⟨(h p (by simp)).2, i64_zero, i64_zero, i64_zero⟩
  | p :: q :: r, hl, h, n, hn => by
    rw [chN_cons] at hn
    have hL := chN_len q r
    simp only [List.length_cons] at hl
    rcases List.mem_append.1 hn with h1 | h1
    · exact chN_64 (q :: r) (by simp; omega) (fun x hx => h x (List.mem_cons_of_mem _ hx)) n h1
    · rcases List.mem_cons.1 h1 with rfl | h1
      · exact ⟨(h p (by simp)).2, i64_zero, i64_zero, i64_zero⟩
      · obtain rfl := List.mem_singleton.1 h1
        exact ⟨i64_zero, (h q (by simp)).1, i64_nat _ (by omega), i64_nat _ (by omega)⟩
theorem fwd_at {xs : List Spn} {vn va : Value} {w : World} {B : Nat} (h2 : ∀ i (hi : i < xs.length), I64 xs[i].ck.off ∧ xs[i].ck.nm.size ≤ maxLen) (h64 : ∀ n ∈ chN (pcsF xs), I64 n.an ∧ I64 n.bd ∧ I64 n.ls ∧ I64 n.mr) (hn : w.ownsRow B 168 5 vn (chN (pcsF xs)).length ((chN (pcsF xs)).flatMap encN)) (ha : w.ownsRow B 79 5 va (xs.map ansOf).length ((xs.map ansOf).flatMap encA0)) : FrsAt w vn va (fwdF xs) := by
  refine ⟨slAt_of_own (enc := encN) (by omega) (fun _ => rfl) (fun x hx => ⟨rfl, h64 x hx⟩) hn, slAt_of_own (enc := encA0) (by omega) (fun _ => rfl) (fun x hx => ?_) ha⟩
  obtain ⟨y, hy, rfl⟩ := List.mem_map.1 hx
  obtain ⟨i, hi, rfl⟩ := List.mem_iff_getElem.1 hy
  exact ⟨_, rfl, SlAt_nil w, (h2 i hi).1, i64_zero, (h2 i hi).2⟩
end Go.Proofs.YtbikdlcjbigafaaGreatDoor

namespace Go.Proofs.YtbikdlcjbigafaaGreatDoor
set_option linter.unusedVariables false
set_option linter.unusedSimpArgs false
open Go.ChangeShapes Go.WideShapes Go.ChangeAt Go.RowKit

structure Seg where
  lo : Int
  hi : Int
  off : Int
  fr : Int
def nextF (xs : List Spn) (i : Nat) : Int := match xs[i + 1]? with | some s => s.fr | none => 4102444800
def segF (xs : List Spn) (i : Nat) (x : Spn) : Seg := ⟨x.fr + x.ck.off, nextF xs i + x.ck.off, x.ck.off, x.fr⟩
def segs (xs : List Spn) : List Seg := xs.mapIdx (segF xs)
theorem segs_len (xs : List Spn) : (segs xs).length = xs.length := by simp [segs]
theorem segs_at (xs : List Spn) (i : Nat) (h : i < xs.length) : (segs xs)[i]'(by rw [segs_len]; exact h) = segF xs i xs[i] := by simp [segs]
theorem segs_take (xs : List Spn) (i : Nat) (h : i < xs.length) : (segs xs).take (i + 1) = (segs xs).take i ++ [segF xs i xs[i]] := by
  rw [take_snoc _ i (by rw [segs_len]; exact h), segs_at xs i h]
def atL (ss : List Seg) : List Int := ss.flatMap fun s => [s.lo, s.hi]
theorem atL_len (ss : List Seg) : (atL ss).length = 2 * ss.length := by
  induction ss with
  | nil => rfl
  | cons s ss ih => simp only [atL, List.flatMap_cons, List.length_append] at ih ⊢; simp only [List.length_cons, List.length_nil]; omega
def inS (t : Int) (s : Seg) : Bool := decide (s.lo ≤ t) && decide (t < s.hi)
def offsAt (ss : List Seg) (t : Int) : List Int := (ss.filter (inS t)).map Seg.off
def jumpAt (ss : List Seg) (t : Int) : Int := match ss.find? (fun s => decide (t < s.lo)) with | some s => s.fr | none => 4102444800
def tellA (ss : List Seg) (t : Int) : Ans := ⟨⟨0, false, ⟨#[]⟩⟩, offsAt ss t, if (offsAt ss t).length = 0 then jumpAt ss t else 0⟩
def atS (xs : List Spn) : List Int := srtC (atL (segs xs))
def at0 (xs : List Spn) : Int := (atS xs).headD 0
/-- the numbers that are told, each with what is asked there. -/
def invP (xs : List Spn) : List Pc := ⟨0, 0⟩ :: (atS xs).mapIdx fun i x => ⟨x, (i : Int) + 1⟩
def invAn (xs : List Spn) : List Ans := tellA (segs xs) (at0 xs - 1) :: (atS xs).map (tellA (segs xs))
def bigA (a : Ans) : Bool := decide (6 < (a.offs.length : Int))
def invF (xs : List Spn) : Frs := ⟨chN (invP xs), invAn xs⟩
def invE (xs : List Spn) : Bool := (invAn xs).any bigA || decide (2000 < ((invAn xs).length : Int))
theorem invP_len (xs : List Spn) : (invP xs).length = (atS xs).length + 1 := by simp [invP]
theorem invAn_len (xs : List Spn) : (invAn xs).length = (atS xs).length + 1 := by simp [invAn]
theorem tell_congr {ss : List Seg} {u t : Int} (h : ∀ s ∈ ss, (s.lo ≤ u ↔ s.lo ≤ t) ∧ (s.hi ≤ u ↔ s.hi ≤ t)) : tellA ss u = tellA ss t := by
  have e1 : ss.filter (inS u) = ss.filter (inS t) := List.filter_congr fun s hs => by
    obtain ⟨a, b⟩ := h s hs
    unfold inS
    rw [Bool.eq_iff_iff]
    simp
    omega
  have e2 : ss.find? (fun s => decide (u < s.lo)) = ss.find? (fun s => decide (t < s.lo)) := by
    clear e1
    induction ss with
    | nil => rfl
    | cons s ss ih =>
      have hs := (h s (by simp)).1
      have e : decide (u < s.lo) = decide (t < s.lo) := by rw [Bool.eq_iff_iff]; simp; omega
      simp only [List.find?_cons, e, ih fun x hx => h x (by simp [hx])]
  unfold tellA offsAt jumpAt
  rw [e1, e2]
theorem split_at {A : List Int} (hA : A.Pairwise (· < ·)) (t : Int) : ∀ n, n ≤ A.length → ∃ i, i ≤ n ∧ (∀ j (hj : j < A.length), j < i → A[j] ≤ t) ∧ ∀ j (hj : j < A.length), i ≤ j → j < n → t < A[j]
  | 0, _ => ⟨0, Nat.le_refl _, fun j _ h => by omega, fun j _ _ h => by omega⟩
  | n + 1, hn => by
    obtain ⟨i, h1, h2, h3⟩ := split_at hA t n (by omega)
    by_cases h : A[n] ≤ t
    · refine ⟨n + 1, Nat.le_refl _, fun j hj hlt => ?_, fun j _ a b => by omega⟩
      by_cases e : j = n
      · subst e; exact h
      · have := List.pairwise_iff_getElem.1 hA j n hj (by omega) (by omega)
        omega
    · refine ⟨i, by omega, h2, fun j hj a b => ?_⟩
      by_cases e : j = n
      · subst e; omega
      · exact h3 j hj a (by omega)
theorem mem_atL {ss : List Seg} {s : Seg} (h : s ∈ ss) : s.lo ∈ atL ss ∧ s.hi ∈ atL ss :=
  ⟨List.mem_flatMap.2 ⟨s, h, by simp⟩, List.mem_flatMap.2 ⟨s, h, by simp⟩⟩
theorem atS_pos {xs : List Spn} (h : 0 < xs.length) : 0 < (atS xs).length := by
  have h1 := mem_atL (ss := segs xs) (List.getElem_mem (show 0 < (segs xs).length by rw [segs_len]; exact h))
  have := (srtC_mem (atL (segs xs)) _).2 h1.1
  unfold atS
  exact List.length_pos_of_mem this
theorem at0_eq {xs : List Spn} (h : 0 < (atS xs).length) : at0 xs = (atS xs)[0] := by
  unfold at0
  generalize atS xs = l at h
  cases l with
  | nil => simp at h
  | cons a l => rfl
/-- what the tree tells for t is what is told at t. -/
theorem inv_lf {xs : List Spn} (h0 : 0 < xs.length) (t : Int) : ∃ i, ∃ hi : i < (invAn xs).length, Lf (invF xs).nodes t ((invF xs).nodes.length - 1) i ∧ (invAn xs)[i] = tellA (segs xs) t := by
  have hp := atS_pos h0
  have hA : (atS xs).Pairwise (· < ·) := srtC_rise _
  have hm : ∀ s ∈ segs xs, s.lo ∈ atS xs ∧ s.hi ∈ atS xs := fun s hs => ⟨(srtC_mem _ _).2 (mem_atL hs).1, (srtC_mem _ _).2 (mem_atL hs).2⟩
  obtain ⟨i, h1, h2, h3⟩ := split_at hA t _ (Nat.le_refl _)
  have hi : i < (invP xs).length := by rw [invP_len]; omega
  have hl := chain_lf t (invP xs) i hi (fun j hj hij => by
    rw [invP_len] at hj
    match j, hj, hij with
    | j + 1, hj, hij =>
      simp only [invP, List.getElem_cons_succ, List.getElem_mapIdx]
      exact h3 j (by omega) (by omega) (by omega)) (fun j hj a b => by
    rw [invP_len] at hj
    match j, hj, a, b with
    | j + 1, hj, a, b =>
      simp only [invP, List.getElem_cons_succ, List.getElem_mapIdx]
      exact h2 j (by omega) (by omega))
  have he : (invP xs)[i].an = i := by
    match i, hi with
    | 0, _ => rfl
    | i + 1, _ => simp [invP, List.getElem_mapIdx]
  rw [he] at hl
  refine ⟨i, by rw [invAn_len]; rw [invP_len] at hi; exact hi, hl, ?_⟩
  match i, h1, h2, h3 with
  | 0, h1, h2, h3 =>
    show tellA (segs xs) (at0 xs - 1) = _
    refine tell_congr fun s hs => ?_
    obtain ⟨a, b⟩ := hm s hs
    have key : ∀ v ∈ atS xs, at0 xs ≤ v ∧ t < v := fun v hv => by
      obtain ⟨j, hj, rfl⟩ := List.mem_iff_getElem.1 hv
      refine ⟨?_, h3 j hj (Nat.zero_le _) hj⟩
      rw [at0_eq hp]
      by_cases e : j = 0
      · subst e; omega
      · have := List.pairwise_iff_getElem.1 hA 0 j hp hj (by omega); omega
    have := key _ a
    have := key _ b
    omega
  | i + 1, h1, h2, h3 =>
    simp only [invAn, List.getElem_cons_succ, List.getElem_map]
    refine tell_congr fun s hs => ?_
    obtain ⟨a, b⟩ := hm s hs
    have key : ∀ v ∈ atS xs, (v ≤ (atS xs)[i] ↔ v ≤ t) := fun v hv => by
      obtain ⟨j, hj, rfl⟩ := List.mem_iff_getElem.1 hv
      have hle := h2 i (by omega) (by omega)
      by_cases e : j ≤ i
      · have : (atS xs)[j] ≤ (atS xs)[i] := by
          by_cases e' : j = i
          · subst e'; omega
          · have := List.pairwise_iff_getElem.1 hA j i hj (by omega) (by omega); omega
        omega
      · have h4 := h3 j hj (by omega) hj
        have h5 := List.pairwise_iff_getElem.1 hA i j (by omega) hj (by omega)
        omega
    exact ⟨key _ a, key _ b⟩
end Go.Proofs.YtbikdlcjbigafaaGreatDoor

namespace Go.Proofs.YtbikdlcjbigafaaGreatDoor
set_option linter.unusedVariables false
set_option linter.unusedSimpArgs false
open Go.ChangeShapes Go.WideShapes Go.ChangeAt Go.RowKit

def SpB (x : Spn) : Prop := -2208988800 ≤ x.fr ∧ x.fr < 4102444800 ∧ -172800 ≤ x.ck.off ∧ x.ck.off ≤ 172800
theorem spB_of {xs : List Spn} (h : spnE xs = 0) : ∀ j (hj : j < xs.length), SpB xs[j] := fun j hj => by
  obtain ⟨_, _, h3⟩ := spn_good h
  obtain ⟨a, b, _, c, d, _, _⟩ := spE_zero (h3 j hj)
  exact ⟨a, b, c, d⟩
theorem nextF_bd {xs : List Spn} (h : ∀ j (hj : j < xs.length), SpB xs[j]) (i : Nat) : -2208988800 ≤ nextF xs i ∧ nextF xs i ≤ 4102444800 := by
  unfold nextF
  split
  · rename_i s hs
    obtain ⟨hj, rfl⟩ := List.getElem?_eq_some_iff.1 hs
    obtain ⟨a, b, _, _⟩ := h (i + 1) hj
    omega
  · omega
set_option maxRecDepth 100000 in
set_option maxHeartbeats 2000000 in
theorem ends_any (xs : List Spn) (v : Value) (T L i : Nat) (w : World) (hi : i < xs.length) (hT : w.cell? ⟨T, 0, none⟩ = some (.int .i64 4102444800)) (hL : w.cell? ⟨L, 0, none⟩ = some v) (hv : SlAt w 4 RSpn v xs) (hb : ∀ j (hj : j < xs.length), SpB xs[j]) :
    Calls Tryz.prog 50 #[.int .i64 (i : Int), .pointer (some ⟨T, 0, none⟩), .pointer (some ⟨L, 0, none⟩)] w fun e w' => e = .returned (.tuple #[.int .i64 (segF xs i xs[i]).lo, .int .i64 (segF xs i xs[i]).hi]) ∧ ∃ n, w' = w.drewN n := by
  obtain ⟨an, cn, rfl, ln⟩ := hv.shape
  have ln' := maxLen_eq _ ln
  obtain ⟨b, off, rfl, hbb, ⟨c0, c1, -, -⟩, -, -, -⟩ := elemSpn hv i hi
  obtain ⟨p1, p2, p3, p4⟩ := hb i hi
  obtain ⟨q1, q2⟩ := nextF_bd hb i
  have HLO : Hid ((segF xs i xs[i]).lo = xs[i].fr + xs[i].ck.off) := Lib.hid rfl
  have HHI : Hid ((segF xs i xs[i]).hi = nextF xs i + xs[i].ck.off) := Lib.hid rfl
  have hi' : (i : Int) < (xs.length : Int) := by omega
  by_cases h : i + 1 < xs.length
  · obtain ⟨b', off', hbo, -, ⟨d0, -⟩, -⟩ := elemSpn hv (i + 1) h
    obtain ⟨rfl, rfl⟩ : b = b' ∧ off = off' := by simpa using hbo
    have hn : nextF xs i = xs[i + 1].fr := by unfold nextF; rw [List.getElem?_eq_getElem h]
    rw [← hn] at d0
    have h2 : (i : Int) + 1 < (xs.length : Int) := by omega
    have t2 : ((i : Int) + 1).toNat = i + 1 := by omega
    have t4 : (0 : Int) ≤ (i : Int) + 1 := by omega
    clear hv hb hbo hn ln h
    generalize nextF xs i = nx at *
    generalize (segF xs i xs[i]).lo = lo at *
    generalize (segF xs i xs[i]).hi = hh at *
    generalize xs[i] = x at *
    go_enter Tryz.func50, Tryz.ntmps50
    go_wp2
    have t5 : IntKind.i64.wrap (x.fr + x.ck.off) = x.fr + x.ck.off := IntWalk.i64_in _ (by omega)
    have t6 : IntKind.i64.wrap (nx + x.ck.off) = nx + x.ck.off := IntWalk.i64_in _ (by omega)
    go_quiet (fail)
    clear t5 t6
    go_wp2
    go_ret2
    exact ⟨ret_i2 HLO.out.symm HHI.out.symm, _, rfl⟩
  · have hn : nextF xs i = 4102444800 := by unfold nextF; rw [List.getElem?_eq_none (by omega)]
    have h2 : ¬ (i : Int) + 1 < (xs.length : Int) := by omega
    rw [hn] at HHI
    clear hv hb hn ln h q1 q2
    generalize (segF xs i xs[i]).lo = lo at *
    generalize (segF xs i xs[i]).hi = hh at *
    generalize xs[i] = x at *
    go_enter Tryz.func50, Tryz.ntmps50
    go_wp2
    have t5 : IntKind.i64.wrap (x.fr + x.ck.off) = x.fr + x.ck.off := IntWalk.i64_in _ (by omega)
    have t6 : IntKind.i64.wrap (4102444800 + x.ck.off) = 4102444800 + x.ck.off := IntWalk.i64_in _ (by omega)
    go_quiet (fail)
    clear t5 t6
    go_wp2
    go_ret2
    exact ⟨ret_i2 HLO.out.symm HHI.out.symm, _, rfl⟩
end Go.Proofs.YtbikdlcjbigafaaGreatDoor

namespace Go.Proofs.YtbikdlcjbigafaaGreatDoor
set_option linter.unusedVariables false
set_option linter.unusedSimpArgs false
open Go.ChangeShapes Go.WideShapes Go.ChangeAt Go.RowKit Go.Shelf
attribute [local go_sem] Oper.semAt_some

/-- the rounds are j, j - 1 .. : those below j are to come. -/
def Dn {n : Nat} (j : Nat) (pre : List (Fin n)) : Prop := pre.map (fun k => k.1) = (List.range' j (n - j)).reverse ∧ j ≤ n
/-- what a round keeps: what lay below n0; the box with the slice. -/
def Kp2 (n₀ Bs : Nat) (A B : World) : Prop := Below n₀ A B ∧ ∀ o, A.heap[Bs]? = some o → B.heap[Bs]? = some o
theorem Kp2.trans {n₀ Bs : Nat} {A B C : World} (h : Kp2 n₀ Bs A B) (g : Kp2 n₀ Bs B C) : Kp2 n₀ Bs A C := ⟨h.1.trans g.1, fun o ho => g.2 o (h.2 o ho)⟩
theorem Kp2.refl (n₀ Bs : Nat) (A : World) : Kp2 n₀ Bs A A := ⟨Below.refl _ _, fun _ h => h⟩
theorem Kp2.cell {n₀ Bs : Nat} {A B : World} (h : Kp2 n₀ Bs A B) {t : TypeId} {v : Value} (hb : Boxed A Bs t v) : B.cell? ⟨Bs, 0, none⟩ = some v := Boxed.cell (t := t) (h.2 _ hb)
end Go.Proofs.YtbikdlcjbigafaaGreatDoor
