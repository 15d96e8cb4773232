/-
  tree.Forward.
  tree.Forward of spans that may be.
  The edges of spans, the window, the clock of spans at an instant.
  The law on tree.Forward: the plain part.
-/
import Derived.Test.YtlhidbbphngpcaaTreeT
import Derived.Test.YtlhidbbphngpcaaFwdB
import Derived.Test.YtlhidbbphngpcaaWinB
namespace Go.Proofs.Ytlhidbbphngpcaa
set_option linter.unusedVariables false
set_option linter.unusedSimpArgs false
open Go.ChangeShapes Go.WideShapes Go.ChangeAt Go.RowKit

def pcs (xs : List Spn) : List Pc := xs.mapIdx fun i x => ⟨x.fr, i⟩
def ansOf (x : Spn) : Ans := ⟨x.ck, [], 0⟩
def fwdF (xs : List Spn) : Frs := ⟨chN (pcs xs), xs.map ansOf⟩
def encA0 (x : Ans) : List Value := [.int .i64 x.ck.off, .bool x.ck.sav, .string x.ck.nm, .slice none 0 0, .int .i64 x.jump]
theorem info_ans : (Try.prog.info? 39).map (fun i => (i.zero, i.size, i.bytes)) = some (some (.agg #[.int .i64 0, .bool false, .string ⟨#[]⟩, .slice none 0 0, .int .i64 0]), 5, 64) := by kernel_rfl
theorem info_pc : (Try.prog.info? 83).map (fun i => (i.zero, i.size, i.bytes)) = some (some (.agg #[.int .i64 0, .int .i64 0]), 2, 16) := by kernel_rfl
theorem encA0_one (x : Ans) : ∀ u ∈ encA0 x, u.oneCell' = true := by
  intro u hu
  simp [encA0] at hu
  rcases hu with rfl | rfl | rfl | rfl | rfl <;> rfl
theorem pcs_len (xs : List Spn) : (pcs xs).length = xs.length := by simp [pcs]
theorem pcs_at (xs : List Spn) (k : Nat) (h : k < xs.length) : (pcs xs)[k]'(by rw [pcs_len]; exact h) = ⟨xs[k].fr, k⟩ := by simp [pcs]
theorem take_pcs (xs : List Spn) (k : Nat) (h : k < xs.length) : (pcs xs).take (k + 1) = (pcs xs).take k ++ [⟨xs[k].fr, k⟩] := by
  rw [take_snoc _ k (by rw [pcs_len]; exact h), pcs_at xs k h]
theorem take_ans (xs : List Spn) (k : Nat) (h : k < xs.length) : (xs.map ansOf).take (k + 1) = (xs.map ansOf).take k ++ [ansOf xs[k]] := by
  rw [take_snoc _ k (by rw [List.length_map]; exact h), List.getElem_map]
end Go.Proofs.Ytlhidbbphngpcaa
namespace Go.Proofs.Ytlhidbbphngpcaa
set_option linter.unusedVariables false
set_option linter.unusedSimpArgs false
open Go.ChangeShapes Go.WideShapes Go.ChangeAt Go.RowKit

/-- behind the first append of a round. -/
theorem fwd_mid {w1 wr u1 : World} {o1 o2 : Obj} {ps va v0 v1 : Value} {P : List Pc} {A : List Ans} (hps : wr.ownsRow (w1.heap.size + 1) 83 2 ps P.length (P.flatMap encP)) (hva : wr.ownsRow (w1.heap.size + 1) 39 5 va A.length (A.flatMap encA0)) (hsz : w1.heap.size + 1 ≤ wr.heap.size)
    (hg : ((wr.alloc o1).alloc o2).grownBy u1 va.ownBlock) (c0 : wr.cell? ⟨w1.heap.size, 0, none⟩ = some v0) (c1 : wr.cell? ⟨w1.heap.size, 1, none⟩ = some v1) (f5 : ∀ j, wr.frozen? ⟨w1.heap.size, j, none⟩ = false) (hbr : Below w1.heap.size w1 wr) :
    (∀ j, u1.cell? ⟨wr.heap.size, j, none⟩ = (wr.alloc o1).cell? ⟨wr.heap.size, j, none⟩) ∧ u1.cell? ⟨w1.heap.size, 0, none⟩ = some v0 ∧ u1.cell? ⟨w1.heap.size, 1, none⟩ = some v1 ∧ (∀ j, u1.frozen? ⟨w1.heap.size, j, none⟩ = false) ∧ (wr.heap.size + 1 < u1.heap.size ∧ Below w1.heap.size w1 u1) ∧ u1.ownsRow (w1.heap.size + 1) 83 2 ps P.length (P.flatMap encP) := by
  have hs1 := size_alloc wr o1
  have hs2 := size_alloc (wr.alloc o1) o2
  have hB := append_keep hva (below_alloc2 hsz o1 o2) hsz hg
  have hle := hg.size
  refine ⟨fun j => ?_, (hB.cell (p := ⟨w1.heap.size, 0, none⟩) (Nat.lt_succ_self _)).trans c0, (hB.cell (p := ⟨w1.heap.size, 1, none⟩) (Nat.lt_succ_self _)).trans c1, fun j => (hB.frozen (p := ⟨w1.heap.size, j, none⟩) (Nat.lt_succ_self _)).trans (f5 j), ⟨by omega, hbr.trans (hB.mono (Nat.le_succ _))⟩, ?_⟩
  · have hne : some wr.heap.size ≠ va.ownBlock := by
      intro e
      have := (hva.lt wr.heap.size e.symm).2
      omega
    rw [grown_cell hg (by omega) hne]
    exact ((Below.refl (wr.alloc o1).heap.size _).alloc (Nat.le_refl _) _).cell (p := ⟨wr.heap.size, j, none⟩) (by rw [hs1]; exact Nat.lt_succ_self _)
  · exact ((hps.alloc o1).alloc o2).kept hg (own_apart hps hva (by decide))
/-- behind the second append of a round. -/
theorem fwd_end {w1 wr u1 u2 : World} {o : Obj} {ps v0 v1 v1' : Value} {P : List Pc} {A : List Ans} (hps : u1.ownsRow (w1.heap.size + 1) 83 2 ps P.length (P.flatMap encP)) (hva : u1.ownsRow (w1.heap.size + 1) 39 5 v1' A.length (A.flatMap encA0))
    (c0 : u1.cell? ⟨w1.heap.size, 0, none⟩ = some v0) (c1 : u1.cell? ⟨w1.heap.size, 1, none⟩ = some v1) (f5 : ∀ j, u1.frozen? ⟨w1.heap.size, j, none⟩ = false) (hz : wr.heap.size + 1 < u1.heap.size ∧ Below w1.heap.size w1 u1)
    (hg : ((u1.setCell ⟨w1.heap.size, 1, none⟩ v1').alloc o).grownBy u2 ps.ownBlock) :
    u2.cell? ⟨w1.heap.size, 0, none⟩ = some v0 ∧ u2.cell? ⟨w1.heap.size, 1, none⟩ = some v1' ∧ (∀ j, u2.frozen? ⟨w1.heap.size, j, none⟩ = false) ∧ (w1.heap.size + 1 ≤ u2.heap.size ∧ Below w1.heap.size w1 u2) ∧ u2.ownsRow (w1.heap.size + 1) 39 5 v1' A.length (A.flatMap encA0) := by
  have hlt : w1.heap.size < u1.heap.size := by
    rcases Nat.lt_or_ge w1.heap.size u1.heap.size with q | q
    · exact q
    · simp [World.cell?, Array.getElem?_eq_none q] at c0
  have hs := World.size_setCell (w := u1) (a := ⟨w1.heap.size, 1, none⟩) (v := v1')
  have hps' : (u1.setCell ⟨w1.heap.size, 1, none⟩ v1').ownsRow (w1.heap.size + 1) 83 2 ps P.length (P.flatMap encP) := ownsRow_setCell_below hps (Nat.lt_succ_self _) _
  have hva' : (u1.setCell ⟨w1.heap.size, 1, none⟩ v1').ownsRow (w1.heap.size + 1) 39 5 v1' A.length (A.flatMap encA0) := ownsRow_setCell_below hva (Nat.lt_succ_self _) _
  have hB : Below (w1.heap.size + 1) (u1.setCell ⟨w1.heap.size, 1, none⟩ v1') u2 := append_keep hps' ((Below.refl _ _).alloc (by rw [hs]; omega) _) (by rw [hs]; omega) hg
  refine ⟨(hB.cell (p := ⟨w1.heap.size, 0, none⟩) (Nat.lt_succ_self _)).trans ?_, (hB.cell (p := ⟨w1.heap.size, 1, none⟩) (Nat.lt_succ_self _)).trans (World.cell?_setCell_same (h := c1) ..), fun j => (hB.frozen (p := ⟨w1.heap.size, j, none⟩) (Nat.lt_succ_self _)).trans ?_, ⟨?_, ?_⟩, (hva'.alloc o).kept hg (own_apart hva' hps' (by decide))⟩
  · rw [World.cell?_setCell_other (h := by simp)]; exact c0
  · rw [World.frozen?_setCell]; exact f5 j
  · have := hB.size; rw [hs] at this; omega
  · exact (hz.2.setCell (Nat.le_refl _) _).trans (hB.mono (Nat.le_succ _))
end Go.Proofs.Ytlhidbbphngpcaa
namespace Go.Proofs.Ytlhidbbphngpcaa
set_option linter.unusedVariables false
set_option linter.unusedSimpArgs false
open Go.ChangeShapes Go.WideShapes Go.ChangeAt Go.RowKit

set_option maxHeartbeats 1000000 in
theorem edges_any (v : Value) (spn : List Spn) (w : World) (hv : SlAt w 4 RSpn v spn) (hr : spn.length * 8 ≤ 140737488355320) :
    Calls Try.prog 14 #[v, .bool false] w fun e w' => ∃ v xs, e = .returned v ∧ SlAt w' 1 RInt v xs ∧ Below w.heap.size w w' := by
  obtain ⟨an, cn, rfl, ln⟩ := hv.shape
  have ln' := maxLen_eq _ ln
  have HN := Lib.hid hv
  clear hv ln
  obtain ⟨i0, hi, hz0, hz1, hz2⟩ := info_parts info_int
  go_enter Try.func14, Try.ntmps14
  go_wp2
  go_loopw [5, 6] (fun v t wr => ∃ k : Nat, k ≤ spn.length ∧ t = .int .i64 k ∧ (∃ xs : List Int, xs.length ≤ k ∧ Hid (∀ x ∈ xs, I64 x) ∧ wr.ownsRow w.heap.size 3 1 v xs.length (xs.flatMap encI)) ∧ Below w.heap.size w wr) (fun _ t _ => (spn.length - intOf t).toNat)
  case atStart => exact ⟨0, by omega, rfl, ⟨[], by simp, fun x hx => by simp at hx, World.ownsRow_nil _ _ _ _⟩, Below.refl _ _⟩
  case round =>
    obtain ⟨k, hk, rfl, ⟨xs, hx, hx64, hown⟩, hbr⟩ := hrel
    by_cases hlt : k < spn.length
    · obtain ⟨b, off, rfl, hbb, ⟨c0, c1, c2, c3⟩, h64, _, _⟩ := elemSpn HN.out k hlt
      have d0 := (hbr.cell (p := ⟨b, off + k * 4, none⟩) hbb).trans c0
      have H64 := Lib.hid h64
      clear c0 c1 c2 c3 h64
      generalize spn[k] = y at *
      have hsz := hbr.size
      go_wp2_with (at_builtin; refine wpList_append_own _ rfl _ _ 34 rfl w.heap.size 3 i0 (.int .i64 0) 1 8 Try.underlying34 hi (by assumption) hz1 hz2 rfl (by decide) _ _ _ rfl (hown.alloc _) ⟨wr.heap.size, 0, none⟩ 1 1 [.int .i64 y.fr] rfl rfl (one_cell _ _ _) (by intro u hu; simp at hu; subst hu; rfl) (by unfold maxLen; omega) (by omega) (by rw [size_alloc]; omega) ?_; intro v' w1 hown' hgrow _)
      have hB : Below w.heap.size w w1 := (hbr.alloc hsz _).grown hgrow (by rw [size_alloc]; omega) (fun g hg => (hown.lt g hg).1)
      have HO := own_snoc hown'
      have H6 : Hid (∀ x ∈ xs ++ [y.fr], I64 x) := fun x hx => by
        rcases List.mem_append.1 hx with h | h
        · exact hx64.out x h
        · simp at h; subst h; exact H64.out
      clear hown' hgrow
      go_wp2
      go_roundw
      case rel => exact ⟨k + 1, by omega, by go_num, ⟨xs ++ [y.fr], by simp; omega, H6, HO⟩, hB⟩
      case measure => simp [intOf]; omega
    · go_wp2
      go_ret
      exact ⟨_, xs, rfl, ints_of_own hx64.out hown, hbr⟩
def insB (t : Int) : Bool := decide (-2208988800 ≤ t) && decide (t < 4102444800)
def clkW (w : World) (c : Obj) (y : Clk) : World := (w.alloc c).alloc (.cells #[.int .i64 y.off, .bool y.sav, .string y.nm] 37)
/-- the number of the span that an instant belongs to, among the first k. -/
def AtSpan (xs : List Spn) (t : Int) (k i : Nat) : Prop := i < k ∧ (∃ h : i < xs.length, i = 0 ∨ xs[i].fr ≤ t) ∧ ∀ j (h : j < xs.length), i < j → j < k → t < xs[j].fr
end Go.Proofs.Ytlhidbbphngpcaa
namespace Go.Proofs.Ytlhidbbphngpcaa
set_option linter.unusedVariables false
set_option linter.unusedSimpArgs false
open Go.ChangeShapes Go.WideShapes Go.ChangeAt Go.RowKit

theorem spn_good {xs : List Spn} (h : spnE xs = 0) : 0 < xs.length ∧ xs.length ≤ 1000 ∧ ∀ i (hi : i < xs.length), spE xs i xs[i] = 0 := by
  unfold spnE at h
  by_cases h0 : xs.length = 0
  · rw [if_pos h0] at h; omega
  · rw [if_neg h0] at h
    by_cases h1 : 1000 < xs.length
    · rw [if_pos h1] at h; omega
    · rw [if_neg h1] at h
      exact ⟨by omega, by omega, fun i hi => by have := ferr_all _ _ _ h i hi; simpa using this⟩
theorem spn_rise {xs : List Spn} (h : ∀ i (hi : i < xs.length), spE xs i xs[i] = 0) : ∀ (d i : Nat) (hj : i + d < xs.length), xs[i].fr ≤ xs[i + d].fr
  | 0, i, hj => Int.le_refl _
  | d + 1, i, hj => by
    have ih := spn_rise h d i (by omega)
    have h1 := (spE_zero (h (i + (d + 1)) hj)).2.2.2.2.2.1 (by omega)
    rw [prevF_at (by omega) (by omega)] at h1
    simp only [show i + (d + 1) - 1 = i + d from by omega] at h1
    omega
theorem oddB_no {n : Int} (h1 : -172800 ≤ n) (h2 : n ≤ 172800) : oddB n = false := by
  unfold oddB; rw [Bool.or_eq_false_iff, decide_eq_false_iff_not, decide_eq_false_iff_not]; omega
theorem fwd_good {xs : List Spn} (h : spnE xs = 0) : frsE (fwdF xs) = 0 := by
  obtain ⟨h0, h1, h2⟩ := spn_good h
  have hl : (chN (pcs xs)).length = 2 * (xs.length - 1) + 1 := by
    have e := pcs_len xs
    match hp : pcs xs with
    | [] => rw [hp] at e; simp at e; omega
    | p :: r => rw [hp] at e; rw [chN_len]; simp at e; omega
  unfold frsE fwdF
  dsimp only
  rw [if_neg (by omega), if_neg (by rw [List.length_map]; omega)]
  have ha : anssE (xs.map ansOf) = 0 := by
    refine ferr_none _ _ _ fun i hi => ?_
    rw [List.getElem_map]
    have hi' : i < xs.length := by simpa using hi
    obtain ⟨a1, a2, a3, a4, a5, _⟩ := spE_zero (h2 i hi')
    have e1 : ansBad (ansOf xs[i]) = false := by
      unfold ansBad ansOf
      simp [oddB_no a4 a5]
    have e2 : ansBig (ansOf xs[i]) = false := by
      unfold ansBig ansOf
      simp; omega
    unfold ansE
    rw [e1, e2]
    rfl
  rw [if_neg (by simpa using ha)]
  refine ferr_none _ _ _ fun i hi => ?_
  rw [Nat.zero_add]
  exact chN_good _ (pcs xs) (fun p hp => by
    obtain ⟨j, hj, rfl⟩ := List.mem_iff_getElem.1 hp
    rw [pcs_at xs j (by rw [pcs_len] at hj; exact hj), List.length_map]
    have : j < xs.length := by rw [pcs_len] at hj; exact hj
    dsimp only
    omega) i hi
theorem fwd_lf {xs : List Spn} (h : spnE xs = 0) {t : Int} {i : Nat} (hat : AtSpan xs t xs.length i) : Lf (fwdF xs).nodes t ((fwdF xs).nodes.length - 1) i := by
  obtain ⟨h0, h1, h2⟩ := spn_good h
  obtain ⟨a1, ⟨a2, a3⟩, a4⟩ := hat
  have hi : i < (pcs xs).length := by rw [pcs_len]; exact a1
  have := chain_lf t (pcs xs) i hi (fun j hj hij => by
    have hj' : j < xs.length := by rw [pcs_len] at hj; exact hj
    rw [pcs_at xs j hj']; exact a4 j hj' hij hj') (fun j hj h1j hji => by
    have hj' : j < xs.length := by rw [pcs_len] at hj; exact hj
    rw [pcs_at xs j hj']
    have hr := spn_rise h2 (i - j) j (by omega)
    simp only [show j + (i - j) = i from by omega] at hr
    rcases a3 with a3 | a3
    · omega
    · show xs[j].fr ≤ t; omega)
  rw [pcs_at xs i a1] at this
  exact this
theorem atSpan_ex (xs : List Spn) (t : Int) (h0 : 0 < xs.length) : ∀ k, 1 ≤ k → k ≤ xs.length → ∃ i, AtSpan xs t k i
  | 0, h, _ => by omega
  | 1, _, _ => ⟨0, by omega, ⟨h0, .inl rfl⟩, fun j _ a b => by omega⟩
  | k + 2, _, h => by
    by_cases c : xs[k + 1].fr ≤ t
    · exact ⟨k + 1, by omega, ⟨by omega, .inr c⟩, fun j _ a b => by omega⟩
    · obtain ⟨i, a1, a2, a3⟩ := atSpan_ex xs t h0 (k + 1) (by omega) (by omega)
      refine ⟨i, by omega, a2, fun j hj a b => ?_⟩
      by_cases e : j = k + 1
      · subst e; omega
      · exact a3 j hj a (by omega)
theorem atSpan_one {xs : List Spn} {t : Int} {i j : Nat} (hi : AtSpan xs t xs.length i) (hj : AtSpan xs t xs.length j) : i = j := by
  obtain ⟨a1, ⟨a2, a3⟩, a4⟩ := hi
  obtain ⟨b1, ⟨b2, b3⟩, b4⟩ := hj
  rcases Nat.lt_trichotomy i j with h | h | h
  · have := a4 j b2 h b1
    rcases b3 with b3 | b3 <;> omega
  · exact h
  · have := b4 i a2 h a1
    rcases a3 with a3 | a3 <;> omega
theorem RSpn_one : ∀ cs y, RSpn cs y → ∀ u ∈ cs, u.oneCell' = true := by
  rintro cs y ⟨rfl, _⟩ u hu
  simp at hu
  rcases hu with rfl | rfl | rfl | rfl <;> rfl
theorem info_spn : (Try.prog.info? 50).map (fun i => (i.zero, i.size, i.bytes)) = some (some (.agg #[.int .i64 0, .int .i64 0, .bool false, .string ⟨#[]⟩]), 4, 40) := by kernel_rfl
theorem chN_64 : ∀ (ps : List Pc), ps.length ≤ 9000 → (∀ p ∈ ps, I64 p.fr ∧ I64 p.an) → ∀ n ∈ chN ps, I64 n.an ∧ I64 n.bd ∧ I64 n.ls ∧ I64 n.mr
  | [], _, _, n, hn => by simp [chN] at hn
  | [p], _, h, n, hn => by
    obtain rfl : n = leafN p.an := by simpa [chN] using hn
    exact ⟨(h p (by simp)).2, i64_zero, i64_zero, i64_zero⟩
  | p :: q :: r, hl, h, n, hn => by
    rw [chN_cons] at hn
    have hL := chN_len q r
    simp only [List.length_cons] at hl
    rcases List.mem_append.1 hn with h1 | h1
    · exact chN_64 (q :: r) (by simp; omega) (fun x hx => h x (List.mem_cons_of_mem _ hx)) n h1
    · rcases List.mem_cons.1 h1 with rfl | h1
      · exact ⟨(h p (by simp)).2, i64_zero, i64_zero, i64_zero⟩
      · obtain rfl := List.mem_singleton.1 h1
        exact ⟨i64_zero, (h q (by simp)).1, i64_nat _ (by omega), i64_nat _ (by omega)⟩
theorem fwd_at {xs : List Spn} {vn va : Value} {w : World} {B : Nat} (h2 : ∀ i (hi : i < xs.length), I64 xs[i].ck.off ∧ xs[i].ck.nm.size ≤ maxLen) (h64 : ∀ n ∈ chN (pcs xs), I64 n.an ∧ I64 n.bd ∧ I64 n.ls ∧ I64 n.mr) (hn : w.ownsRow B 61 5 vn (chN (pcs xs)).length ((chN (pcs xs)).flatMap encN)) (ha : w.ownsRow B 39 5 va (xs.map ansOf).length ((xs.map ansOf).flatMap encA0)) : FrsAt w vn va (fwdF xs) := by
  refine ⟨slAt_of_own (enc := encN) (by omega) (fun _ => rfl) (fun x hx => ⟨rfl, h64 x hx⟩) hn, slAt_of_own (enc := encA0) (by omega) (fun _ => rfl) (fun x hx => ?_) ha⟩
  obtain ⟨y, hy, rfl⟩ := List.mem_map.1 hx
  obtain ⟨i, hi, rfl⟩ := List.mem_iff_getElem.1 hy
  exact ⟨_, rfl, SlAt_nil w, (h2 i hi).1, i64_zero, (h2 i hi).2⟩
end Go.Proofs.Ytlhidbbphngpcaa
