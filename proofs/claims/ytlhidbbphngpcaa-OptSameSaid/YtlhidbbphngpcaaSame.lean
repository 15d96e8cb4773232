/-
  sameInts, sameAnswer, twins, exactly.
-/
import Derived.Test.YtlhidbbphngpcaaOptK
import Derived.Test.YtlhidbbphngpcaaTreeD
import Derived.Deep.DeepCutAuto
import Derived.Deep.CutRange
import Derived.Deep.CutBlock
import Derived.StillTailTactics
namespace Go.Proofs.Ytlhidbbphngpcaa
set_option linter.unusedVariables false
set_option linter.unusedSimpArgs false
open Go.ChangeShapes Go.WideShapes Go.ChangeAt Go.RowKit

set_option maxHeartbeats 2000000 in
theorem sameIntsX_any (va vb : Value) (xs ys : List Int) (w : World) (ha : SlAt w 1 RInt va xs) (hb : SlAt w 1 RInt vb ys) :
    Calls Try.prog 46 #[va, vb] w fun e w' => ∃ r, e = .returned (.bool r) ∧ (r = true ↔ xs = ys) ∧ ∃ n, w' = w.drewN n := by
  obtain ⟨aa, ca, rfl, la⟩ := ha.shape
  obtain ⟨ab, cb, rfl, lb⟩ := hb.shape
  have la' := maxLen_eq _ la
  have lb' := maxLen_eq _ lb
  have HA := Lib.hid ha
  have HB := Lib.hid hb
  clear ha hb la lb
  by_cases hl : xs.length = ys.length
  · obtain ⟨n, hn⟩ : ∃ n, n = ys.length := ⟨_, rfl⟩
    rw [hl, ← hn] at la' ⊢
    have HXN : Hid (xs.length = n) := by show _ = _; rw [hl, hn]
    have HYN : Hid (ys.length = n) := hn.symm
    rw [hl, ← hn] at HA
    rw [← hn] at HB
    clear hl hn lb'
    go_enter Try.func46, Try.ntmps46
    go_wp2_with fail
    go_loopw [5] (fun t wr => ∃ k : Nat, k ≤ n ∧ t = .int .i64 (k : Int) ∧ Hid (∀ i (hi : i < xs.length) (hj : i < ys.length), i < k → xs[i] = ys[i]) ∧ ∃ q, wr = w.drewN q) (fun t _ => (n - intOf t).toNat)
    case atStart => exact ⟨0, by omega, rfl, fun i _ _ h => by omega, 0, rfl⟩
    case round =>
      obtain ⟨k, hk, rfl, hall, q, rfl⟩ := hrel
      by_cases hlt : k < n
      · have hkx : k < xs.length := by rw [HXN.out]; exact hlt
        have hky : k < ys.length := by rw [HYN.out]; exact hlt
        obtain ⟨b1, o1, e1, z1, c1, _⟩ := elemInt HA.out k hkx
        obtain ⟨b2, o2, e2, z2, c2, _⟩ := elemInt HB.out k hky
        subst e1 e2
        have hkn : (k : Int) < (n : Int) := by omega
        have hne : Hid (xs[k] ≠ ys[k] → xs ≠ ys) := fun h e => by subst e; exact h rfl
        have heq : Hid (xs[k] = ys[k] → ∀ i (hi : i < xs.length) (hj : i < ys.length), i < k + 1 → xs[i] = ys[i]) := fun h i hi hj hik => by
          by_cases e : i = k
          · subst e; exact h
          · exact hall.out i hi hj (by omega)
        generalize xs[k] = x at *
        generalize ys[k] = y at *
        by_cases hxy : x = y
        · have HEQ := Lib.hid (heq.out hxy)
          subst hxy
          clear hne heq
          go_wp2_with fail
          go_quiet (fail)
          go_wp2_with fail
          go_roundw
          case rel => exact ⟨k + 1, by omega, by go_num, HEQ, _, rfl⟩
          case measure => simp [intOf]; omega
        · have hb : (x != y) = true := by simpa using hxy
          have HNE : Hid (xs ≠ ys) := hne.out hxy
          clear hne hxy heq
          go_wp2_with fail
          go_quiet (fail)
          go_wp2_with fail
          go_ret
          exact ⟨false, rfl, ⟨fun h => (by cases h), fun h => absurd h HNE.out⟩, q + nq, by simp [World.drewN, Nat.add_assoc]⟩
      · have HE : Hid (xs = ys) := by
          refine List.ext_getElem (by rw [HXN.out, HYN.out]) fun i h1 h2 => ?_
          have := HXN.out
          exact hall.out i h1 h2 (by omega)
        go_wp2_with fail
        go_ret
        exact ⟨true, rfl, ⟨fun _ => HE.out, fun _ => rfl⟩, _, rfl⟩
  · have HNE : Hid (xs ≠ ys) := fun e => hl (by rw [e])
    have hl' : ((xs.length : Int) != (ys.length : Int)) = true := by simp; omega
    have hl2 : ¬ (xs.length : Int) = (ys.length : Int) := by omega
    go_enter Try.func46, Try.ntmps46
    go_wp2
    go_ret
    exact ⟨false, rfl, ⟨fun h => (by cases h), fun h => absurd h HNE.out⟩, 0, rfl⟩
set_option maxRecDepth 100000 in
set_option maxHeartbeats 2000000 in
theorem sameAnswerX_any (a b : Ans) (vo vu : Value) (w : World) (hv : SlAt w 1 RInt vo a.offs) (hu : SlAt w 1 RInt vu b.offs) :
    Calls Try.prog 17 #[.agg #[.int .i64 a.ck.off, .bool a.ck.sav, .string a.ck.nm, vo, .int .i64 a.jump], .agg #[.int .i64 b.ck.off, .bool b.ck.sav, .string b.ck.nm, vu, .int .i64 b.jump]] w fun e w' => e = .returned (.bool (eqA a b)) ∧ Below w.heap.size w w' := by
  obtain ⟨r0, hr0⟩ : ∃ r, eqA a b = r := ⟨_, rfl⟩
  have hiff := eqA_iff a b
  rw [hr0] at hiff ⊢
  have HR := Lib.hid hiff
  clear hr0 hiff
  obtain ⟨⟨ao, sa, an⟩, af, aj⟩ := a
  obtain ⟨⟨bo, sb, bn⟩, bf, bj⟩ := b
  dsimp only at *
  have HE := Lib.hid (fun (W : World) (hb : Below w.heap.size w W) => sameIntsX_any vo vu af bf W (hv.mono hb fun _ _ h => h) (hu.mono hb fun _ _ h => h))
  obtain ⟨aa, ca, rfl, -⟩ := hv.shape
  obtain ⟨ab, cb, rfl, -⟩ := hu.shape
  clear hv hu
  by_cases h : ao = bo ∧ sa = sb ∧ an.toList = bn.toList ∧ aj = bj
  · obtain ⟨rfl, rfl, h3, rfl⟩ := h
    obtain rfl := ba_toListX h3
    clear h3
    go_enter Try.func17, Try.ntmps17
    go_wp2_with fail
    refine (HE.out _ (below_alloc2 (Nat.le_refl _) _ _)).mono ?_; rintro e w1 ⟨r, rfl, hr, n, rfl⟩
    go_wp2
    go_ret
    refine ⟨ret_bool ?_, below_draws (below_alloc2 (Nat.le_refl _) _ _) n⟩
    rw [Bool.eq_iff_iff, hr, HR.out]
    exact ⟨fun h => by rw [h], fun h => by injection h⟩
  · have hne : r0 = false := by
      cases hx : r0 with
      | false => rfl
      | true => exact absurd (HR.out.1 hx) fun e => by injection e with e1 e2 e3; injection e1 with e4 e5 e6; exact h ⟨e4, e5, by rw [e6], e3⟩
    subst hne
    clear HE HR
    by_cases h1 : ao = bo
    · subst h1
      by_cases h2 : sa = sb
      · subst h2
        by_cases h3 : an.toList = bn.toList
        · have h4 : ¬ aj = bj := fun e => h ⟨rfl, rfl, h3, e⟩
          clear h
          go_enter Try.func17, Try.ntmps17
          go_wp2_with fail
          go_ret
          exact ⟨rfl, below_alloc2 (Nat.le_refl _) _ _⟩
        · clear h
          go_enter Try.func17, Try.ntmps17
          go_wp2_with fail
          go_ret
          exact ⟨rfl, below_alloc2 (Nat.le_refl _) _ _⟩
      · clear h
        go_enter Try.func17, Try.ntmps17
        go_wp2_with fail
        go_ret
        exact ⟨rfl, below_alloc2 (Nat.le_refl _) _ _⟩
    · clear h
      go_enter Try.func17, Try.ntmps17
      go_wp2_with fail
      go_ret
      exact ⟨rfl, below_alloc2 (Nat.le_refl _) _ _⟩
set_option maxRecDepth 100000 in
set_option maxHeartbeats 4000000 in
theorem twins_no (l : List Ans) (va : Value) (w : World) (hv : SlAt w 5 (RAns w) va l) (hd : ∀ i j (hi : i < l.length) (hj : j < l.length), i ≠ j → l[i] ≠ l[j]) :
    Calls Try.prog 23 #[va] w fun e w' => e = .returned (.bool false) ∧ Below w.heap.size w w' := by
  obtain ⟨ao, cap, rfl, hl⟩ := hv.shape
  have hl' := maxLen_eq _ hl
  have HV := Lib.hid hv
  have HD := Lib.hid hd
  clear hv hd hl
  go_enter Try.func23, Try.ntmps23
  go_wp2_with fail
  go_loopw [3] (fun t wr => ∃ k : Nat, k ≤ l.length ∧ t = .int .i64 (k : Int) ∧ Below w.heap.size w wr) (fun t _ => (l.length - intOf t).toNat)
  case atStart => exact ⟨0, by omega, rfl, Below.refl _ _⟩
  case round =>
    obtain ⟨k, hk, rfl, hb⟩ := hrel
    by_cases hlt : k < l.length
    · have hX := HV.out.mono hb (RAns.mono hb)
      have hki : (k : Int) < (l.length : Int) := by omega
      go_wp2_with fail
      go_loopw [4] (fun t wq => ∃ q : Nat, q ≤ k ∧ t = .int .i64 (q : Int) ∧ Below w.heap.size w wq) (fun t _ => (k - intOf t).toNat)
      case atStart => exact ⟨0, by omega, rfl, hb⟩
      case round =>
        obtain ⟨q, hq, rfl, hbq⟩ := hrel
        by_cases hlq : q < k
        · have hY := HV.out.mono hbq (RAns.mono hbq)
          obtain ⟨b, off, vo, rfl, hbz, ⟨c0, c1, c2, c3, c4⟩, so, _, _, _⟩ := elemAns hY k hlt
          obtain ⟨b2, off2, uo, e2, hb2, ⟨d0, d1, d2, d3, d4⟩, so2, _, _, _⟩ := elemAns hY q (by omega)
          obtain ⟨⟨rfl, rfl⟩, -⟩ : (b = b2 ∧ off = off2) ∧ True := by simpa using e2
          have hne : Hid (eqA l[k] l[q] = false) := by show _ = _; exact eqA_no (HD.out k q hlt (by omega) (by omega))
          generalize l[k] = x at *
          generalize l[q] = y at *
          have hqi : (q : Int) < (k : Int) := by omega
          have hqi2 : (q : Int) < (l.length : Int) := by omega
          have SC := Lib.hid (fun W hb => sameAnswerX_any x y vo uo W (SlAt.mono so hb fun _ _ h => h) (SlAt.mono so2 hb fun _ _ h => h))
          rw [hne.out] at SC
          clear hX hY so so2 hne
          have HB := Lib.hid hbq
          clear hbq hb
          go_wp2
          go_still_tail 8, (by kernel_rfl)
          change wpList _ _ _ _ _ wr.drew
          go_wp2_with fail
          refine (SC.out wr.drew (Below.refl _ _).drew).mono ?_; rintro e w5 ⟨rfl, hb5⟩
          have HB5 : Below w.heap.size w w5 := HB.out.drew.trans (hb5.mono HB.out.size)
          clear hb5
          go_wp2
          go_roundw
          case rel => exact ⟨q + 1, by omega, by go_num, HB5⟩
          case measure => simp [intOf]; omega
        · go_wp2
          exact ⟨⟨k + 1, by omega, by go_num, hbq⟩, by simp [intOf]; omega⟩
    · go_wp2
      go_ret
      exact ⟨rfl, hb⟩
end Go.Proofs.Ytlhidbbphngpcaa
