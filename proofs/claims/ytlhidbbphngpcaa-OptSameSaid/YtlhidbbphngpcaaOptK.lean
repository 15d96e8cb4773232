/-
  tree.same, exactly; the first answer of a row that is the same as one in a box.
-/
import Derived.Test.YtlhidbbphngpcaaOptD
import Derived.Test.YtlhidbbphngpcaaAnG
import Derived.Test.YtlhidbbphngpcaaTreeB
namespace Go.Proofs.Ytlhidbbphngpcaa
set_option linter.unusedVariables false
set_option linter.unusedSimpArgs false
open Go.ChangeShapes Go.WideShapes Go.ChangeAt Go.RowKit

set_option maxHeartbeats 2000000 in
theorem equalX_any (va vb : Value) (xs ys : List Int) (w : World) (ha : SlAt w 1 RInt va xs) (hb : SlAt w 1 RInt vb ys) :
    Calls Try.prog 21 #[va, vb] w fun e w' => ∃ r, e = .returned (.bool r) ∧ (r = true ↔ xs = ys) ∧ ∃ n, w' = w.drewN n := by
  obtain ⟨aa, ca, rfl, la⟩ := ha.shape
  obtain ⟨ab, cb, rfl, lb⟩ := hb.shape
  have la' := maxLen_eq _ la
  have lb' := maxLen_eq _ lb
  have HA := Lib.hid ha
  have HB := Lib.hid hb
  clear ha hb la lb
  by_cases hl : xs.length = ys.length
  · obtain ⟨n, hn⟩ : ∃ n, n = ys.length := ⟨_, rfl⟩
    rw [hl, ← hn] at la' ⊢
    have HXN : Hid (xs.length = n) := by show _ = _; rw [hl, hn]
    have HYN : Hid (ys.length = n) := hn.symm
    rw [hl, ← hn] at HA
    rw [← hn] at HB
    clear hl hn lb'
    go_enter Try.func21, Try.ntmps21
    go_wp2_with fail
    go_loopw [13] (fun t wr => ∃ k : Nat, k ≤ n ∧ t = .int .i64 (k : Int) ∧ Hid (∀ i (hi : i < xs.length) (hj : i < ys.length), i < k → xs[i] = ys[i]) ∧ ∃ q, wr = w.drewN q) (fun t _ => (n - intOf t).toNat)
    case atStart => exact ⟨0, by omega, rfl, fun i _ _ h => by omega, 0, rfl⟩
    case round =>
      obtain ⟨k, hk, rfl, hall, q, rfl⟩ := hrel
      by_cases hlt : k < n
      · have hkx : k < xs.length := by rw [HXN.out]; exact hlt
        have hky : k < ys.length := by rw [HYN.out]; exact hlt
        obtain ⟨b1, o1, e1, z1, c1, _⟩ := elemInt HA.out k hkx
        obtain ⟨b2, o2, e2, z2, c2, _⟩ := elemInt HB.out k hky
        subst e1 e2
        have hkn : (k : Int) < (n : Int) := by omega
        have hne : Hid (xs[k] ≠ ys[k] → xs ≠ ys) := fun h e => by subst e; exact h rfl
        have heq : Hid (xs[k] = ys[k] → ∀ i (hi : i < xs.length) (hj : i < ys.length), i < k + 1 → xs[i] = ys[i]) := fun h i hi hj hik => by
          by_cases e : i = k
          · subst e; exact h
          · exact hall.out i hi hj (by omega)
        generalize xs[k] = x at *
        generalize ys[k] = y at *
        by_cases hxy : x = y
        · have HEQ := Lib.hid (heq.out hxy)
          subst hxy
          clear hne heq
          go_wp2_with fail
          go_quiet (fail)
          go_wp2_with fail
          go_roundw
          case rel => exact ⟨k + 1, by omega, by go_num, HEQ, _, rfl⟩
          case measure => simp [intOf]; omega
        · have hb : (x != y) = true := by simpa using hxy
          have HNE : Hid (xs ≠ ys) := hne.out hxy
          clear hne hxy heq
          go_wp2_with fail
          go_quiet (fail)
          go_wp2_with fail
          go_ret
          exact ⟨false, rfl, ⟨fun h => (by cases h), fun h => absurd h HNE.out⟩, q + nq, by simp [World.drewN, Nat.add_assoc]⟩
      · have HE : Hid (xs = ys) := by
          refine List.ext_getElem (by rw [HXN.out, HYN.out]) fun i h1 h2 => ?_
          have := HXN.out
          exact hall.out i h1 h2 (by omega)
        go_wp2_with fail
        go_ret
        exact ⟨true, rfl, ⟨fun _ => HE.out, fun _ => rfl⟩, _, rfl⟩
  · have HNE : Hid (xs ≠ ys) := fun e => hl (by rw [e])
    have hl' : ((xs.length : Int) != (ys.length : Int)) = true := by simp; omega
    have hl2 : ¬ (xs.length : Int) = (ys.length : Int) := by omega
    go_enter Try.func21, Try.ntmps21
    go_wp2
    go_ret
    exact ⟨false, rfl, ⟨fun h => (by cases h), fun h => absurd h HNE.out⟩, 0, rfl⟩
theorem ba_toListX {a b : ByteArray} (h : a.toList = b.toList) : a = b := Go.WideShapes.bytes_inj (by rw [← ByteArray.toList_eq, ← ByteArray.toList_eq]; exact h)
theorem eqA_no {a b : Ans} (h : ¬ a = b) : eqA a b = false := by
  cases e : eqA a b with
  | false => rfl
  | true => exact absurd ((eqA_iff a b).1 e) h
set_option maxRecDepth 100000 in
set_option maxHeartbeats 2000000 in
theorem same_any (a b : Ans) (vo vu : Value) (w : World) (hv : SlAt w 1 RInt vo a.offs) (hu : SlAt w 1 RInt vu b.offs) :
    Calls Try.prog 69 #[.agg #[.int .i64 a.ck.off, .bool a.ck.sav, .string a.ck.nm, vo, .int .i64 a.jump], .agg #[.int .i64 b.ck.off, .bool b.ck.sav, .string b.ck.nm, vu, .int .i64 b.jump]] w fun e w' => e = .returned (.bool (eqA a b)) ∧ Below w.heap.size w w' := by
  obtain ⟨r0, hr0⟩ : ∃ r, eqA a b = r := ⟨_, rfl⟩
  have hiff := eqA_iff a b
  rw [hr0] at hiff ⊢
  have HR := Lib.hid hiff
  clear hr0 hiff
  obtain ⟨⟨ao, sa, an⟩, af, aj⟩ := a
  obtain ⟨⟨bo, sb, bn⟩, bf, bj⟩ := b
  dsimp only at *
  have HE := Lib.hid (fun (W : World) (hb : Below w.heap.size w W) => equalX_any vo vu af bf W (hv.mono hb fun _ _ h => h) (hu.mono hb fun _ _ h => h))
  obtain ⟨aa, ca, rfl, -⟩ := hv.shape
  obtain ⟨ab, cb, rfl, -⟩ := hu.shape
  clear hv hu
  by_cases h : ao = bo ∧ sa = sb ∧ an.toList = bn.toList ∧ aj = bj
  · obtain ⟨rfl, rfl, h3, rfl⟩ := h
    obtain rfl := ba_toListX h3
    clear h3
    go_enter Try.func69, Try.ntmps69
    go_wp2_with fail
    refine (HE.out _ (below_alloc2 (Nat.le_refl _) _ _)).mono ?_; rintro e w1 ⟨r, rfl, hr, n, rfl⟩
    go_wp2
    go_ret
    refine ⟨ret_bool ?_, below_draws (below_alloc2 (Nat.le_refl _) _ _) n⟩
    rw [Bool.eq_iff_iff, hr, HR.out]
    exact ⟨fun h => by rw [h], fun h => by injection h⟩
  · have hne : r0 = false := by
      cases hx : r0 with
      | false => rfl
      | true => exact absurd (HR.out.1 hx) fun e => by injection e with e1 e2 e3; injection e1 with e4 e5 e6; exact h ⟨e4, e5, by rw [e6], e3⟩
    subst hne
    clear HE HR
    by_cases h1 : ao = bo
    · subst h1
      by_cases h2 : sa = sb
      · subst h2
        by_cases h3 : an.toList = bn.toList
        · have h4 : ¬ aj = bj := fun e => h ⟨rfl, rfl, h3, e⟩
          clear h
          go_enter Try.func69, Try.ntmps69
          go_wp2_with fail
          go_ret
          exact ⟨rfl, below_alloc2 (Nat.le_refl _) _ _⟩
        · clear h
          go_enter Try.func69, Try.ntmps69
          go_wp2_with fail
          go_ret
          exact ⟨rfl, below_alloc2 (Nat.le_refl _) _ _⟩
      · clear h
        go_enter Try.func69, Try.ntmps69
        go_wp2_with fail
        go_ret
        exact ⟨rfl, below_alloc2 (Nat.le_refl _) _ _⟩
    · clear h
      go_enter Try.func69, Try.ntmps69
      go_wp2_with fail
      go_ret
      exact ⟨rfl, below_alloc2 (Nat.le_refl _) _ _⟩
/-- a box that holds an answer. -/
def AnBx (W : World) (T : Nat) (A : Ans) (v : Value) : Prop := (W.cell? ⟨T, 0, none⟩ = some (.int .i64 A.ck.off) ∧ W.cell? ⟨T, 1, none⟩ = some (.bool A.ck.sav) ∧ W.cell? ⟨T, 2, none⟩ = some (.string A.ck.nm) ∧ W.cell? ⟨T, 3, none⟩ = some v ∧ W.cell? ⟨T, 4, none⟩ = some (.int .i64 A.jump)) ∧ T < W.heap.size
theorem AnBx.new (w : World) (A : Ans) (v : Value) : AnBx (w.alloc (.cells #[.int .i64 A.ck.off, .bool A.ck.sav, .string A.ck.nm, v, .int .i64 A.jump] 39)) w.heap.size A v :=
  ⟨⟨World.cell?_alloc_at (w := w) _ _ w.heap.size 0 rfl, World.cell?_alloc_at (w := w) _ _ w.heap.size 1 rfl, World.cell?_alloc_at (w := w) _ _ w.heap.size 2 rfl, World.cell?_alloc_at (w := w) _ _ w.heap.size 3 rfl, World.cell?_alloc_at (w := w) _ _ w.heap.size 4 rfl⟩, by rw [size_alloc]; omega⟩
theorem AnBx.block {W W' : World} {T : Nat} {A : Ans} {v : Value} (h : AnBx W T A v) (e : W'.heap[T]? = W.heap[T]?) (hz : T < W'.heap.size) : AnBx W' T A v := by
  obtain ⟨⟨h0, h1, h2, h3, h4⟩, _⟩ := h
  have c : ∀ j, W'.cell? ⟨T, j, none⟩ = W.cell? ⟨T, j, none⟩ := fun j => World.cell?_of_block (a := ⟨T, j, none⟩) e
  exact ⟨⟨(c _).trans h0, (c _).trans h1, (c _).trans h2, (c _).trans h3, (c _).trans h4⟩, hz⟩
theorem AnBx.below {W W' : World} {T B : Nat} {A : Ans} {v : Value} (h : AnBx W T A v) (hb : Below B W W') (hT : T < B) : AnBx W' T A v := h.block (hb.block T hT) (Nat.lt_of_lt_of_le h.2 hb.size)
set_option maxRecDepth 100000 in
set_option maxHeartbeats 2000000 in
theorem merged1_any (A b : Ans) (v vb : Value) (T : Nat) (w : World) (hT : AnBx w T A v) (hv : SlAt w 1 RInt v A.offs) (hu : SlAt w 1 RInt vb b.offs) :
    Calls Try.prog 68 #[.agg #[.int .i64 b.ck.off, .bool b.ck.sav, .string b.ck.nm, vb, .int .i64 b.jump], .pointer (some ⟨T, 0, none⟩)] w fun e w' => e = .returned (.bool (eqA A b)) ∧ Below w.heap.size w w' := by
  obtain ⟨⟨c0, c1, c2, c3, c4⟩, hz⟩ := hT
  have HE := Lib.hid (fun (W : World) (hb : Below w.heap.size w W) => same_any A b v vb W (hv.mono hb fun _ _ h => h) (hu.mono hb fun _ _ h => h))
  obtain ⟨aa, ca, rfl, -⟩ := hv.shape
  obtain ⟨ab, cb, rfl, -⟩ := hu.shape
  clear hv hu
  generalize eqA A b = r at *
  go_enter Try.func68, Try.ntmps68
  go_wp2_with fail
  refine (HE.out _ ((Below.refl _ _).alloc (Nat.le_refl _) _)).mono ?_; rintro e w1 ⟨rfl, hb⟩
  go_wp2
  go_ret
  exact ⟨rfl, below_in hb⟩
set_option maxRecDepth 100000 in
set_option maxHeartbeats 4000000 in
theorem idxMerged_any (A : Ans) (T : Nat) (v va : Value) (xs : List Ans) (w : World) (hT : AnBx w T A va) (ho : SlAt w 1 RInt va A.offs) (hv : SlAt w 5 (RAns w) v xs) :
    Calls Try.prog 67 #[v, .func (.func 68) #[] #[.pointer (some ⟨T, 0, none⟩)]] w fun e w' => e = .returned (.int .i64 (fidx (eqA A) xs)) ∧ Below w.heap.size w w' := by
  have eg := enters_of Try.func68 (by kernel_rfl) rfl
  obtain ⟨aa, ca, rfl, la⟩ := hv.shape
  have la' := maxLen_eq _ la
  have HV := Lib.hid hv
  have HT := Lib.hid hT
  have HO := Lib.hid ho
  clear hv hT la ho
  go_enter Try.func67, Try.ntmps67
  go_wp2
  go_loopw [8] (fun t wr => ∃ k : Nat, k ≤ xs.length ∧ t = .int .i64 (k : Int) ∧ Hid (∀ i (hi : i < xs.length), i < k → eqA A xs[i] = false) ∧ Hid (Below w.heap.size w wr)) (fun t _ => (xs.length - intOf t).toNat)
  case atStart => exact ⟨0, by omega, rfl, fun i _ h => by omega, Below.refl _ _⟩
  case round =>
    obtain ⟨k, hk, rfl, HN, HB⟩ := hrel
    by_cases hlt : k < xs.length
    · have hkn : (k : Int) < (xs.length : Int) := by omega
      have hX := HV.out.mono HB.out (RAns.mono HB.out)
      obtain ⟨b1, o1, vo, e1, z1, ⟨c0, c1, c2, c3, c4⟩, ho, hnm, i1, i2⟩ := elemAns hX k hlt
      subst e1
      have HC := Lib.hid (merged1_any A xs[k] va vo T wr (HT.out.below HB.out HT.out.2) (HO.out.mono HB.out fun _ _ h => h) ho)
      have HAT : Hid (eqA A xs[k] = true → fidx (eqA A) xs = k) := fun he => fidx_at _ _ k hlt (fun i hi => HN.out i (by omega) hi) he
      have HK : Hid (eqA A xs[k] = false → ∀ i (hi : i < xs.length), i < k + 1 → eqA A xs[i] = false) := fun he i hi h => by
        by_cases e : i = k
        · subst e; exact he
        · exact HN.out i hi (by omega)
      obtain ⟨aoo, cao, rfl, -⟩ := ho.shape
      clear hX ho hnm i1 i2
      generalize xs[k] = x at *
      obtain ⟨r, hr⟩ : ∃ r, eqA A x = r := ⟨_, rfl⟩
      rw [hr] at HC HAT HK
      clear hr
      go_wp2_with fail
      refine HC.out.mono ?_; rintro e w1 ⟨rfl, hb1⟩
      have HB2 := Lib.hid (HB.out.trans (hb1.mono HB.out.size))
      cases r
      · have HK2 := Lib.hid (HK.out rfl)
        clear hb1
        go_wp2
        go_roundw
        case rel => exact ⟨k + 1, by omega, by go_num, HK2, HB2⟩
        case measure => simp [intOf]; omega
      · have HF := Lib.hid (HAT.out rfl)
        clear hb1
        go_wp2
        go_ret
        exact ⟨ret_int HF.out.symm, HB2.out⟩
    · have HF : Hid (fidx (eqA A) xs = -1) := fidx_none _ _ fun i hi => HN.out i hi (by omega)
      go_wp2
      go_ret
      exact ⟨ret_int HF.out.symm, HB.out⟩
end Go.Proofs.Ytlhidbbphngpcaa
