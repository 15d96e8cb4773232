/-
  The law on tree.Forward: the plain part.
-/
import Derived.Test.YtpnmaopompfalaaLem
import Derived.Test.YtpnmaopompfalaaFwdG
import Derived.Test.YtpnmaopompfalaaOwnB
namespace Go.Proofs.Ytpnmaopompfalaa
set_option linter.unusedVariables false
set_option linter.unusedSimpArgs false
open Go.ChangeShapes Go.WideShapes Go.ChangeAt Go.RowKit

theorem spn_good {xs : List Spn} (h : spnE xs = 0) : 0 < xs.length ∧ xs.length ≤ 1000 ∧ ∀ i (hi : i < xs.length), spE xs i xs[i] = 0 := by
  unfold spnE at h
  by_cases h0 : xs.length = 0
  · rw [if_pos h0] at h; omega
  · rw [if_neg h0] at h
    by_cases h1 : 1000 < xs.length
    · rw [if_pos h1] at h; omega
    · rw [if_neg h1] at h
      exact ⟨by omega, by omega, fun i hi => by have := ferr_all _ _ _ h i hi; simpa using this⟩
theorem spn_rise {xs : List Spn} (h : ∀ i (hi : i < xs.length), spE xs i xs[i] = 0) : ∀ (d i : Nat) (hj : i + d < xs.length), xs[i].fr ≤ xs[i + d].fr
  | 0, i, hj => Int.le_refl _
  | d + 1, i, hj => by
    have ih := spn_rise h d i (by omega)
    have h1 := (spE_zero (h (i + (d + 1)) hj)).2.2.2.2.2.1 (by omega)
    rw [prevF_at (by omega) (by omega)] at h1
    simp only [show i + (d + 1) - 1 = i + d from by omega] at h1
    omega
theorem oddB_no {n : Int} (h1 : -172800 ≤ n) (h2 : n ≤ 172800) : oddB n = false := by
  unfold oddB; rw [Bool.or_eq_false_iff, decide_eq_false_iff_not, decide_eq_false_iff_not]; omega
theorem fwd_good {xs : List Spn} (h : spnE xs = 0) : frsE (fwdF xs) = 0 := by
  obtain ⟨h0, h1, h2⟩ := spn_good h
  have hl : (chN (pcs xs)).length = 2 * (xs.length - 1) + 1 := by
    have e := pcs_len xs
    match hp : pcs xs with
    | [] => rw [hp] at e; simp at e; omega
    | p :: r => rw [hp] at e; rw [chN_len]; simp at e; omega
  unfold frsE fwdF
  dsimp only
  rw [if_neg (by omega), if_neg (by rw [List.length_map]; omega)]
  have ha : anssE (xs.map ansOf) = 0 := by
    refine ferr_none _ _ _ fun i hi => ?_
    rw [List.getElem_map]
    have hi' : i < xs.length := by simpa using hi
    obtain ⟨a1, a2, a3, a4, a5, _⟩ := spE_zero (h2 i hi')
    have e1 : ansBad (ansOf xs[i]) = false := by
      unfold ansBad ansOf
      simp [oddB_no a4 a5]
    have e2 : ansBig (ansOf xs[i]) = false := by
      unfold ansBig ansOf
      simp; omega
    unfold ansE
    rw [e1, e2]
    rfl
  rw [if_neg (by simpa using ha)]
  refine ferr_none _ _ _ fun i hi => ?_
  rw [Nat.zero_add]
  exact chN_good _ (pcs xs) (fun p hp => by
    obtain ⟨j, hj, rfl⟩ := List.mem_iff_getElem.1 hp
    rw [pcs_at xs j (by rw [pcs_len] at hj; exact hj), List.length_map]
    have : j < xs.length := by rw [pcs_len] at hj; exact hj
    dsimp only
    omega) i hi
theorem fwd_lf {xs : List Spn} (h : spnE xs = 0) {t : Int} {i : Nat} (hat : AtSpan xs t xs.length i) : Lf (fwdF xs).nodes t ((fwdF xs).nodes.length - 1) i := by
  obtain ⟨h0, h1, h2⟩ := spn_good h
  obtain ⟨a1, ⟨a2, a3⟩, a4⟩ := hat
  have hi : i < (pcs xs).length := by rw [pcs_len]; exact a1
  have := chain_lf t (pcs xs) i hi (fun j hj hij => by
    have hj' : j < xs.length := by rw [pcs_len] at hj; exact hj
    rw [pcs_at xs j hj']; exact a4 j hj' hij hj') (fun j hj h1j hji => by
    have hj' : j < xs.length := by rw [pcs_len] at hj; exact hj
    rw [pcs_at xs j hj']
    have hr := spn_rise h2 (i - j) j (by omega)
    simp only [show j + (i - j) = i from by omega] at hr
    rcases a3 with a3 | a3
    · omega
    · show xs[j].fr ≤ t; omega)
  rw [pcs_at xs i a1] at this
  exact this
theorem atSpan_ex (xs : List Spn) (t : Int) (h0 : 0 < xs.length) : ∀ k, 1 ≤ k → k ≤ xs.length → ∃ i, AtSpan xs t k i
  | 0, h, _ => by omega
  | 1, _, _ => ⟨0, by omega, ⟨h0, .inl rfl⟩, fun j _ a b => by omega⟩
  | k + 2, _, h => by
    by_cases c : xs[k + 1].fr ≤ t
    · exact ⟨k + 1, by omega, ⟨by omega, .inr c⟩, fun j _ a b => by omega⟩
    · obtain ⟨i, a1, a2, a3⟩ := atSpan_ex xs t h0 (k + 1) (by omega) (by omega)
      refine ⟨i, by omega, a2, fun j hj a b => ?_⟩
      by_cases e : j = k + 1
      · subst e; omega
      · exact a3 j hj a (by omega)
theorem atSpan_one {xs : List Spn} {t : Int} {i j : Nat} (hi : AtSpan xs t xs.length i) (hj : AtSpan xs t xs.length j) : i = j := by
  obtain ⟨a1, ⟨a2, a3⟩, a4⟩ := hi
  obtain ⟨b1, ⟨b2, b3⟩, b4⟩ := hj
  rcases Nat.lt_trichotomy i j with h | h | h
  · have := a4 j b2 h b1
    rcases b3 with b3 | b3 <;> omega
  · exact h
  · have := b4 i a2 h a1
    rcases a3 with a3 | a3 <;> omega
theorem spanAt_lit (v : Value) (xs : List Spn) (t : Int) (i : Nat) (h : i < xs.length) (w : World) (hv : SlAt w 4 RSpn v xs) (hat : AtSpan xs t xs.length i) :
    Calls Try.prog 33 #[v, .int .i64 t] w fun e w' => e = .returned (.agg #[.int .i64 xs[i].ck.off, .bool xs[i].ck.sav, .string xs[i].ck.nm]) ∧ Below w.heap.size w w' :=
  (spanAt_any v xs t w hv (by omega)).mono fun e w' ⟨j, hj, he, ha, hb⟩ => by
    obtain rfl := atSpan_one hat ha
    exact ⟨he, hb⟩
theorem RSpn_one : ∀ cs y, RSpn cs y → ∀ u ∈ cs, u.oneCell' = true := by
  rintro cs y ⟨rfl, _⟩ u hu
  simp at hu
  rcases hu with rfl | rfl | rfl | rfl <;> rfl
theorem info_spn : (Try.prog.info? 87).map (fun i => (i.zero, i.size, i.bytes)) = some (some (.agg #[.int .i64 0, .int .i64 0, .bool false, .string ⟨#[]⟩]), 4, 40) := by kernel_rfl
theorem chN_64 : ∀ (ps : List Pc), ps.length ≤ 9000 → (∀ p ∈ ps, I64 p.fr ∧ I64 p.an) → ∀ n ∈ chN ps, I64 n.an ∧ I64 n.bd ∧ I64 n.ls ∧ I64 n.mr
  | [], _, _, n, hn => by simp [chN] at hn
  | [p], _, h, n, hn => by
    obtain rfl : n = leafN p.an := by simpa [chN] using hn
    exact ⟨(h p (by simp)).2, i64_zero, i64_zero, i64_zero⟩
  | p :: q :: r, hl, h, n, hn => by
    rw [chN_cons] at hn
    have hL := chN_len q r
    simp only [List.length_cons] at hl
    rcases List.mem_append.1 hn with h1 | h1
    · exact chN_64 (q :: r) (by simp; omega) (fun x hx => h x (List.mem_cons_of_mem _ hx)) n h1
    · rcases List.mem_cons.1 h1 with rfl | h1
      · exact ⟨(h p (by simp)).2, i64_zero, i64_zero, i64_zero⟩
      · obtain rfl := List.mem_singleton.1 h1
        exact ⟨i64_zero, (h q (by simp)).1, i64_nat _ (by omega), i64_nat _ (by omega)⟩
theorem fwd_at {xs : List Spn} {vn va : Value} {w : World} {B : Nat} (h2 : ∀ i (hi : i < xs.length), I64 xs[i].ck.off ∧ xs[i].ck.nm.size ≤ maxLen) (h64 : ∀ n ∈ chN (pcs xs), I64 n.an ∧ I64 n.bd ∧ I64 n.ls ∧ I64 n.mr) (hn : w.ownsRow B 84 5 vn (chN (pcs xs)).length ((chN (pcs xs)).flatMap encN)) (ha : w.ownsRow B 27 5 va (xs.map ansOf).length ((xs.map ansOf).flatMap encA0)) : FrsAt w vn va (fwdF xs) := by
  refine ⟨slAt_of_own (enc := encN) (by omega) (fun _ => rfl) (fun x hx => ⟨rfl, h64 x hx⟩) hn, slAt_of_own (enc := encA0) (by omega) (fun _ => rfl) (fun x hx => ?_) ha⟩
  obtain ⟨y, hy, rfl⟩ := List.mem_map.1 hx
  obtain ⟨i, hi, rfl⟩ := List.mem_iff_getElem.1 hy
  exact ⟨_, rfl, SlAt_nil w, (h2 i hi).1, i64_zero, (h2 i hi).2⟩
end Go.Proofs.Ytpnmaopompfalaa
