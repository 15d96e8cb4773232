/-
  zones.checkZone: what is wrong with a zone.
-/
import Derived.Test.YtdpbedkppomffaaDoorZonP
namespace Go.Proofs.YtdpbedkppomffaaDoor
set_option linter.unusedVariables false
set_option linter.unusedSimpArgs false
open Go.ChangeShapes Go.WideShapes Go.ChangeAt Go.RowKit Civ

theorem ferrZ_all {α : Type} (f : Nat → α → Int) : ∀ (xs : List α) (s : Nat), ferr f s xs = 0 → ∀ i (hi : i < xs.length), f (s + i) xs[i] = 0
  | [], _, _, i, hi => by simp at hi
  | x :: xs, s, h, 0, _ => by
    unfold ferr at h
    by_cases e : f s x = 0
    · simpa using e
    · rw [if_pos e] at h; exact absurd h e
  | x :: xs, s, h, i + 1, hi => by
    unfold ferr at h
    by_cases e : f s x = 0
    · rw [if_neg (by simpa using e)] at h
      have := ferrZ_all f xs (s + 1) h i (by simpa using hi)
      rw [show s + (i + 1) = s + 1 + i by omega]
      simpa using this
    · rw [if_pos e] at h; exact absurd h e
theorem riseB_iff : ∀ (l : List Int), riseB l = true ↔ ∀ (i : Nat) (h : i + 1 < l.length), l[i] < l[i + 1]
  | [] => by simp [riseB]
  | [_] => by simp [riseB]
  | x :: y :: l => by
    unfold riseB
    rw [Bool.and_eq_true, decide_eq_true_iff, riseB_iff (y :: l)]
    constructor
    · rintro ⟨h1, h2⟩ i h
      rcases i with _ | i
      · exact h1
      · have := h2 i (by simpa using h)
        simpa using this
    · intro h
      refine ⟨h 0 (by simp), fun i hi => ?_⟩
      have := h (i + 1) (by simpa using hi)
      simpa using this
theorem eroE_form {rules : List Rul} {x : Ero} {last : Bool} (h : eroF x last = true) : eroE rules x last = 4 := by unfold eroE; rw [if_pos h]
theorem checkEra_any (s : Src) (x : Ero) (last : Bool) (vr vz vl : Value) (w : World) (hs : SrcAt w vr vz vl s) (hx : E64 x) (hV : Tab w ∧ MxL w) :
    Calls Tryd.prog 50 #[.agg #[vr, vz, vl], .agg #[.int .i64 x.off, .string x.rl, .int .i64 x.sv, .string x.fm, .bool x.en, .int .i64 x.yr, .int .i64 x.un.mo, .int .i64 x.un.k, .int .i64 x.un.a, .int .i64 x.un.n, .int .i64 x.un.t, .int .i64 x.un.c], .bool last] w fun e w' => e = .returned (.int .i64 (eroE s.rules x last)) ∧ Below w.heap.size w w' := by
  cases h : eroF x last with
  | false => exact checkEra_good s x last vr vz vl w hs hx hV h
  | true => rw [eroE_form h]; exact checkEra_form s x last vr vz vl w hs hx hV h
theorem eraFault_any (s : Src) (x : Ero) (last : Bool) (vr vz vl : Value) (w : World) (hs : SrcAt w vr vz vl s) (hx : E64 x) :
    Calls Tryd.prog 63 #[.agg #[vr, vz, vl], .agg #[.int .i64 x.off, .string x.rl, .int .i64 x.sv, .string x.fm, .bool x.en, .int .i64 x.yr, .int .i64 x.un.mo, .int .i64 x.un.k, .int .i64 x.un.a, .int .i64 x.un.n, .int .i64 x.un.t, .int .i64 x.un.c], .bool last] w fun e w' => e = .returned (.int .i64 (eroE s.rules x last)) ∧ Below w.heap.size w w' := by
  cases h : eroF x last with
  | false => exact eraFault_good s x last vr vz vl w hs hx h
  | true => rw [eroE_form h]; exact eraFault_form s x last vr vz vl w hs hx h
/-- what holds of rules that may be. -/
def RsOk (s : Src) : Prop := (∀ r ∈ s.rules, rulE r = 0) ∧ s.rules.length ≤ 200
theorem eok_of {s : Src} {xs : List Ero} (hr : RsOk s) (h : erosE s.rules xs = 0) (k : Nat) (hk : k + 1 < xs.length) : EOk s (xs[k]'(by omega)) := by
  have h1 := ferrZ_all _ xs 0 h k (by omega)
  rw [Nat.zero_add] at h1
  have hd : decide ((k : Int) = (xs.length : Int) - 1) = false := by rw [decide_eq_false_iff_not]; omega
  simp only [hd] at h1
  generalize xs[k]'(by omega) = x at *
  unfold eroE at h1
  split at h1
  · cases h1
  · split at h1
    · cases h1
    · rename_i h2
      split at h1
      · cases h1
      · split at h1
        · rename_i e; cases e
        · split at h1
          · cases h1
          · split at h1
            · rename_i e; exact absurd h1 e
            · rename_i h5
              exact ⟨⟨hr.1, hr.2, by omega⟩, by omega, by omega, h1⟩
theorem zonE_a {rules : List Rul} {z : Zon} (h : nameS z.nm = false) : zonE rules z = 4 := by unfold zonE; rw [if_pos h]
theorem zonE_b {rules : List Rul} {z : Zon} (h0 : nameS z.nm = true) (h : z.eras.length = 0 ∨ 20 < z.eras.length) : zonE rules z = 1 := by
  unfold zonE; rw [if_neg (by rw [h0]; simp), if_pos h]
theorem zonE_c {rules : List Rul} {z : Zon} (h0 : nameS z.nm = true) (h : ¬ (z.eras.length = 0 ∨ 20 < z.eras.length)) (h2 : erosE rules z.eras ≠ 0) : zonE rules z = erosE rules z.eras := by
  unfold zonE; rw [if_neg (by rw [h0]; simp), if_neg h, if_pos h2]
theorem zonE_d {rules : List Rul} {z : Zon} (h0 : nameS z.nm = true) (h : ¬ (z.eras.length = 0 ∨ 20 < z.eras.length)) (h2 : erosE rules z.eras = 0) : zonE rules z = if riseB (untL rules z.eras) = true then 0 else 8 := by
  unfold zonE; rw [if_neg (by rw [h0]; simp), if_neg h, if_neg (by simpa using h2)]
end Go.Proofs.YtdpbedkppomffaaDoor
