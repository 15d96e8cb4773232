/-
  sundialkeep.same; the answers' search.
-/
import Derived.Test.YtlhidbbphngpcaaKfA
namespace Go.Proofs.Ytlhidbbphngpcaa
set_option linter.unusedVariables false
set_option linter.unusedSimpArgs false
open Go.ChangeShapes Go.WideShapes Go.ChangeAt Go.RowKit

set_option maxHeartbeats 2000000 in
theorem equal_any (va vb : Value) (xs ys : List Int) (w : World) (ha : SlAt w 1 RInt va xs) (hb : SlAt w 1 RInt vb ys) :
    Calls Try.prog 21 #[va, vb] w fun e w' => ∃ r n, e = .returned (.bool r) ∧ (xs = ys → r = true) ∧ w' = w.drewN n := by
  obtain ⟨aa, ca, rfl, la⟩ := ha.shape
  obtain ⟨ab, cb, rfl, lb⟩ := hb.shape
  have la' := maxLen_eq _ la
  have lb' := maxLen_eq _ lb
  have HA := Lib.hid ha
  have HB := Lib.hid hb
  clear ha hb la lb
  by_cases hl : xs.length = ys.length
  · obtain ⟨n, hn⟩ : ∃ n, n = ys.length := ⟨_, rfl⟩
    rw [hl, ← hn] at la' ⊢
    have HXN : Hid (xs.length = n) := by show _ = _; rw [hl, hn]
    have HYN : Hid (ys.length = n) := hn.symm
    rw [hl, ← hn] at HA
    rw [← hn] at HB
    clear hl hn lb'
    go_enter Try.func21, Try.ntmps21
    go_wp2_with fail
    go_loopw [13] (fun t wr => ∃ k : Nat, k ≤ n ∧ t = .int .i64 (k : Int) ∧ ∃ q, wr = w.drewN q) (fun t _ => (n - intOf t).toNat)
    case atStart => exact ⟨0, by omega, rfl, 0, rfl⟩
    case round =>
      obtain ⟨k, hk, rfl, q, rfl⟩ := hrel
      by_cases hlt : k < n
      · have hkx : k < xs.length := by rw [HXN.out]; exact hlt
        have hky : k < ys.length := by rw [HYN.out]; exact hlt
        obtain ⟨b1, o1, e1, z1, c1, _⟩ := elemInt HA.out k hkx
        obtain ⟨b2, o2, e2, z2, c2, _⟩ := elemInt HB.out k hky
        subst e1 e2
        have hkn : (k : Int) < (n : Int) := by omega
        have hne : Hid (xs[k] ≠ ys[k] → xs ≠ ys) := fun h e => by subst e; exact h rfl
        generalize xs[k] = x at *
        generalize ys[k] = y at *
        by_cases hxy : x = y
        · subst hxy
          clear hne
          go_wp2_with fail
          go_quiet (fail)
          go_wp2_with fail
          go_roundw
          case rel => exact ⟨k + 1, by omega, by go_num, _, rfl⟩
          case measure => simp [intOf]; omega
        · have hb : (x != y) = true := by simpa using hxy
          have HNE : Hid (xs ≠ ys) := hne.out hxy
          clear hne hxy
          go_wp2_with fail
          go_quiet (fail)
          go_wp2_with fail
          go_ret
          exact ⟨false, q + nq, rfl, fun h => absurd h HNE.out, by simp [World.drewN, Nat.add_assoc]⟩
      · go_wp2_with fail
        go_ret
        exact ⟨true, _, rfl, fun _ => rfl, rfl⟩
  · have HNE : Hid (xs ≠ ys) := fun e => hl (by rw [e])
    have hl' : ((xs.length : Int) != (ys.length : Int)) = true := by simp; omega
    have hl2 : ¬ (xs.length : Int) = (ys.length : Int) := by omega
    go_enter Try.func21, Try.ntmps21
    go_wp2
    go_ret
    exact ⟨false, 0, rfl, fun h => absurd h HNE.out, rfl⟩
theorem ba_toList {a b : ByteArray} (h : a.toList = b.toList) : a = b := Go.WideShapes.bytes_inj (by rw [← ByteArray.toList_eq, ← ByteArray.toList_eq]; exact h)
set_option maxRecDepth 100000 in
set_option maxHeartbeats 2000000 in
theorem kfsame_any (a b : Ans) (vo vu : Value) (w : World) (hv : SlAt w 1 RInt vo a.offs) (hu : SlAt w 1 RInt vu b.offs) :
    Calls Try.prog 26 #[.agg #[.int .i64 a.ck.off, .bool a.ck.sav, .string a.ck.nm, vo, .int .i64 a.jump], .agg #[.int .i64 b.ck.off, .bool b.ck.sav, .string b.ck.nm, vu, .int .i64 b.jump]] w fun e w' => ∃ r, e = .returned (.bool r) ∧ (a = b → r = true) ∧ Below w.heap.size w w' := by
  obtain ⟨⟨ao, sa, an⟩, af, aj⟩ := a
  obtain ⟨⟨bo, sb, bn⟩, bf, bj⟩ := b
  dsimp only at *
  have HE := Lib.hid (fun (W : World) (hb : Below w.heap.size w W) => equal_any vo vu af bf W (hv.mono hb fun _ _ h => h) (hu.mono hb fun _ _ h => h))
  obtain ⟨aa, ca, rfl, -⟩ := hv.shape
  obtain ⟨ab, cb, rfl, -⟩ := hu.shape
  clear hv hu
  by_cases h : ao = bo ∧ sa = sb ∧ an.toList = bn.toList ∧ aj = bj
  · obtain ⟨rfl, rfl, h3, rfl⟩ := h
    obtain rfl := ba_toList h3
    clear h3
    go_enter Try.func26, Try.ntmps26
    go_wp2_with fail
    refine (HE.out _ (below_alloc2 (Nat.le_refl _) _ _)).mono ?_; rintro e w1 ⟨r, n, rfl, hr, rfl⟩
    go_wp2
    go_ret
    exact ⟨r, rfl, fun h => hr (by injection h), below_draws (below_alloc2 (Nat.le_refl _) _ _) n⟩
  · have hne : Hid (¬ (Ans.mk ⟨ao, sa, an⟩ af aj = Ans.mk ⟨bo, sb, bn⟩ bf bj)) := fun e => by injection e with e1 e2 e3; injection e1 with e4 e5 e6; exact h ⟨e4, e5, by rw [e6], e3⟩
    clear HE
    by_cases h1 : ao = bo
    · subst h1
      by_cases h2 : sa = sb
      · subst h2
        by_cases h3 : an.toList = bn.toList
        · have h4 : ¬ aj = bj := fun e => h ⟨rfl, rfl, h3, e⟩
          clear h
          go_enter Try.func26, Try.ntmps26
          go_wp2_with fail
          go_ret
          exact ⟨false, rfl, fun h => absurd h hne.out, below_alloc2 (Nat.le_refl _) _ _⟩
        · clear h
          go_enter Try.func26, Try.ntmps26
          go_wp2_with fail
          go_ret
          exact ⟨false, rfl, fun h => absurd h hne.out, below_alloc2 (Nat.le_refl _) _ _⟩
      · clear h
        go_enter Try.func26, Try.ntmps26
        go_wp2_with fail
        go_ret
        exact ⟨false, rfl, fun h => absurd h hne.out, below_alloc2 (Nat.le_refl _) _ _⟩
    · clear h
      go_enter Try.func26, Try.ntmps26
      go_wp2_with fail
      go_ret
      exact ⟨false, rfl, fun h => absurd h hne.out, below_alloc2 (Nat.le_refl _) _ _⟩
/-- a box that holds an answer. -/
def AnB (W : World) (T : Nat) (A : Ans) : Prop := ∃ v, SlAt W 1 RInt v A.offs ∧ T < W.heap.size ∧ ∀ j, j < 5 → W.cell? ⟨T, j, none⟩ = [Value.int .i64 A.ck.off, .bool A.ck.sav, .string A.ck.nm, v, .int .i64 A.jump][j]?
theorem AnB.mono {W W' : World} {T : Nat} {A : Ans} (h : AnB W T A) (hb : Below W.heap.size W W') : AnB W' T A := by
  obtain ⟨v, h1, h2, h3⟩ := h
  exact ⟨v, h1.mono hb fun _ _ h => h, Nat.lt_of_lt_of_le h2 hb.size, fun j hj => (hb.cell (p := ⟨T, j, none⟩) h2).trans (h3 j hj)⟩
end Go.Proofs.Ytlhidbbphngpcaa
