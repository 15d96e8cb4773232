/-
  The laws' small helpers: sameInts, asked.
-/
import Derived.Test.YtlhidbbphngpcaaTreeA
namespace Go.Proofs.Ytlhidbbphngpcaa
set_option linter.unusedVariables false
set_option linter.unusedSimpArgs false
open Go.ChangeShapes Go.WideShapes Go.ChangeAt Go.RowKit

set_option maxHeartbeats 400000 in
theorem sameInts_same (v u : Value) (xs : List Int) (w : World) (hv : SlAt w 1 RInt v xs) (hu : SlAt w 1 RInt u xs) :
    Calls Try.prog 46 #[v, u] w fun e w' => e = .returned (.bool true) ∧ ∃ q, w' = w.drewN q := by
  rcases hv with ⟨a, cap, rfl, rfl⟩ | ⟨b, off, cap, rfl, h0, h1, h2, h3, h4⟩
  · rcases hu with ⟨a2, cap2, rfl, _⟩ | ⟨b2, off2, cap2, rfl, g0, _⟩
    · go_enter Try.func46, Try.ntmps46
      go_wp2
      refine wp_loop_rounds 1 ?_
      rw [rounds_succ]
      go_wp2
      go_ret
      exact ⟨rfl, 0, rfl⟩
    · exact absurd g0 (by simp)
  · rcases hu with ⟨a2, cap2, _, e⟩ | ⟨b2, off2, cap2, rfl, g0, g1, g2, g3, g4⟩
    · exact absurd h0 (by rw [e]; simp)
    have H4 := Lib.hid (intCell h4)
    have G4 := Lib.hid (intCell g4)
    have h5 : xs.length ≤ 9223372036854775807 := by unfold maxLen at h2; omega
    clear h4 h2 g4 g2
    go_enter Try.func46, Try.ntmps46
    go_wp2
    go_loopw [5] (fun t wr => ∃ k : Nat, k ≤ xs.length ∧ t = .int .i64 k ∧ ∃ q, wr = w.drewN q) (fun t _ => (xs.length - intOf t).toNat)
    case atStart => exact ⟨0, by omega, rfl, 0, rfl⟩
    case round =>
      obtain ⟨k, hk, rfl, q, rfl⟩ := hrel
      by_cases hlt : k < xs.length
      · have hc := (H4.out k hlt).1
        have gc := (G4.out k hlt).1
        generalize xs[k] = x at hc gc
        go_wp2
        go_quiet (fail)
        go_wp2
        go_roundw
        case rel => exact ⟨k + 1, by omega, by go_num, _, rfl⟩
        case measure => simp [intOf]; omega
      · go_wp2
        go_ret
        exact ⟨rfl, _, rfl⟩
theorem wf64 (x : Int) : I64 (wrap64 x) := RowKit.wrap64_wf x
set_option maxHeartbeats 400000 in
theorem asked_any (v : Value) (xs : List Int) (n : Int) (w : World) (hv : SlAt w 1 RInt v xs) (hn : I64 n) :
    Calls Try.prog 13 #[v, .int .i64 n] w fun e w' => ∃ t, I64 t ∧ e = .returned (.int .i64 t) ∧ w = w' := by
  rcases hv with ⟨a, cap, rfl, rfl⟩ | ⟨b, off, cap, rfl, h0, h1, h2, h3, h4⟩
  · have HN := Lib.hid hn
    clear hn
    go_enter Try.func13, Try.ntmps13
    go_wp2
    go_ret
    exact ⟨n, HN.out, rfl, rfl⟩
  · have H4 := Lib.hid (intCell h4)
    have h5 : xs.length ≤ 9223372036854775807 := by unfold maxLen at h2; omega
    have hz : ¬ (xs.length : Int) = 0 := by omega
    have hz' : 0 < (xs.length : Int) := by omega
    have hz5 : (xs.length : Int) ≤ 9223372036854775807 := by omega
    have q1 : (wrap64 (n.tdiv 3)).tmod (xs.length : Int) < xs.length := Int.tmod_lt_of_pos _ hz'
    have q2 : -(xs.length : Int) < (wrap64 (n.tdiv 3)).tmod (xs.length : Int) := Int.lt_tmod_of_pos _ hz'
    have HN := Lib.hid hn
    clear h4 h2 hn
    by_cases hq : (wrap64 (n.tdiv 3)).tmod (xs.length : Int) < 0
    · obtain ⟨k, hk⟩ : ∃ k : Nat, -(wrap64 (n.tdiv 3)).tmod (xs.length : Int) = k := ⟨(-(wrap64 (n.tdiv 3)).tmod (xs.length : Int)).toNat, by omega⟩
      have hkl : k < xs.length := by omega
      have hwk : wrap64 (-(wrap64 (n.tdiv 3)).tmod (xs.length : Int)) = (k : Int) := by rw [hk]; unfold wrap64; omega
      have hc := (H4.out k hkl).1
      generalize xs[k] = x at hc
      clear hk q1 q2
      go_enter Try.func13, Try.ntmps13
      go_wp2
      all_goals first | (go_ret; exact ⟨n, HN.out, rfl, rfl⟩) | (go_ret; exact ⟨_, wf64 _, rfl, rfl⟩)
    · obtain ⟨k, hk⟩ : ∃ k : Nat, (wrap64 (n.tdiv 3)).tmod (xs.length : Int) = k := ⟨((wrap64 (n.tdiv 3)).tmod (xs.length : Int)).toNat, by omega⟩
      have hkl : k < xs.length := by omega
      have hc := (H4.out k hkl).1
      generalize xs[k] = x at hc
      clear q1 q2 hq
      go_enter Try.func13, Try.ntmps13
      go_wp2
      all_goals first | (go_ret; exact ⟨n, HN.out, rfl, rfl⟩) | (go_ret; exact ⟨_, wf64 _, rfl, rfl⟩)
theorem size_le_alloc_ (w : World) (o : Obj) : w.heap.size ≤ (w.alloc o).heap.size := by show _ ≤ (w.heap.push o).size; rw [Array.size_push]; omega
theorem sameAnswer_same (a : Ans) (v u : Value) (w : World) (hv : SlAt w 1 RInt v a.offs) (hu : SlAt w 1 RInt u a.offs) (hn : a.ck.nm.size ≤ maxLen) :
    Calls Try.prog 17 #[.agg #[.int .i64 a.ck.off, .bool a.ck.sav, .string a.ck.nm, v, .int .i64 a.jump], .agg #[.int .i64 a.ck.off, .bool a.ck.sav, .string a.ck.nm, u, .int .i64 a.jump]] w fun e w' => e = .returned (.bool true) ∧ Below w.heap.size w w' := by
  obtain ⟨ck, offs, jump⟩ := a
  obtain ⟨off, sav, nm⟩ := ck
  obtain ⟨ao, cap, rfl, hl⟩ := hv.shape
  obtain ⟨bo, cap2, rfl, hl2⟩ := hu.shape
  have hl' := maxLen_eq _ hl
  have hn' := maxLen_eq _ hn
  have HV := Lib.hid hv
  have HU := Lib.hid hu
  clear hv hl hn hu hl2
  dsimp only at hl' hn' HV HU ⊢
  go_enter Try.func17, Try.ntmps17
  go_wp2_with (go_at_call 46; refine (sameInts_same _ _ offs _ (HV.out.mono (((Below.refl _ _).alloc (Nat.le_refl _) _).alloc (size_le_alloc_ w _) _) fun _ _ h => h) (HU.out.mono (((Below.refl _ _).alloc (Nat.le_refl _) _).alloc (size_le_alloc_ w _) _) fun _ _ h => h)).mono ?_; rintro e w' ⟨rfl, q, rfl⟩)
  go_ret
  exact ⟨rfl, below_draws (((Below.refl _ _).alloc (Nat.le_refl _) _).alloc (size_le_alloc_ w _) _) _⟩
end Go.Proofs.Ytlhidbbphngpcaa
