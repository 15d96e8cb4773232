/-
  What is wrong with a source: plain.
-/
import Derived.Test.YtdpbedkppomffaaDoorZonV
namespace Go.Proofs.YtdpbedkppomffaaDoor
set_option linter.unusedVariables false
set_option linter.unusedSimpArgs false

def SzOk (s : Src) : Prop := s.rules.length ≤ 200 ∧ s.zones.length ≤ 200 ∧ s.links.length ≤ 200
theorem srcE_sz {s : Src} (h : ¬ SzOk s) : srcE s = 1 := by
  unfold srcE SzOk at *
  rw [if_pos (by omega)]
theorem srcE_r {s : Src} (h : SzOk s) (h1 : rulsE s ≠ 0) : srcE s = rulsE s := by
  unfold srcE SzOk at *
  rw [if_neg (by omega), if_pos h1]
theorem srcE_z {s : Src} (h : SzOk s) (h1 : rulsE s = 0) (h2 : zonsE s ≠ 0) : srcE s = zonsE s := by
  unfold srcE SzOk at *
  rw [if_neg (by omega), if_neg (by simpa using h1), if_pos h2]
theorem srcE_1 {s : Src} (h : SzOk s) (h1 : rulsE s = 0) (h2 : zonsE s = 0) (h3 : lnk1 s ≠ 0) : srcE s = lnk1 s := by
  unfold srcE SzOk at *
  rw [if_neg (by omega), if_neg (by simpa using h1), if_neg (by simpa using h2), if_pos h3]
theorem srcE_2 {s : Src} (h : SzOk s) (h1 : rulsE s = 0) (h2 : zonsE s = 0) (h3 : lnk1 s = 0) (h4 : lnk2 s ≠ 0) : srcE s = lnk2 s := by
  unfold srcE SzOk at *
  rw [if_neg (by omega), if_neg (by simpa using h1), if_neg (by simpa using h2), if_neg (by simpa using h3), if_pos h4]
theorem srcE_3 {s : Src} (h : SzOk s) (h1 : rulsE s = 0) (h2 : zonsE s = 0) (h3 : lnk1 s = 0) (h4 : lnk2 s = 0) : srcE s = lnk3 s := by
  unfold srcE SzOk at *
  rw [if_neg (by omega), if_neg (by simpa using h1), if_neg (by simpa using h2), if_neg (by simpa using h3), if_neg (by simpa using h4)]
/-- a loop over what may be wrong: what has been said so far. -/
def NoE {α : Type} (f : Nat → α → Int) (xs : List α) (k : Nat) : Prop := ∀ (j : Nat) (h : j < xs.length), j < k → f j xs[j] = 0
theorem NoE.zero {α : Type} (f : Nat → α → Int) (xs : List α) : NoE f xs 0 := fun j h hk => by omega
theorem NoE.succ {α : Type} {f : Nat → α → Int} {xs : List α} {k : Nat} (h : NoE f xs k) (hk : k < xs.length) (h0 : f k xs[k] = 0) : NoE f xs (k + 1) := fun j hj hjk => by
  by_cases e : j = k
  · subst e; exact h0
  · exact h j hj (by omega)
theorem NoE.all {α : Type} {f : Nat → α → Int} {xs : List α} (h : NoE f xs xs.length) : ferr f 0 xs = 0 := ferr_none f xs 0 fun i hi => by rw [Nat.zero_add]; exact h i hi hi
theorem NoE.at {α : Type} {f : Nat → α → Int} {xs : List α} {k : Nat} (h : NoE f xs k) (hk : k < xs.length) (h0 : f k xs[k] ≠ 0) : ferr f 0 xs = f k xs[k] := by
  have := ferr_at f xs 0 k hk (fun i hi => by rw [Nat.zero_add]; exact h i (by omega) hi) (by rw [Nat.zero_add]; exact h0)
  rwa [Nat.zero_add] at this
theorem rsOk_of {s : Src} (h : SzOk s) (h1 : rulsE s = 0) : RsOk s := by
  refine ⟨fun r hr => ?_, h.1⟩
  obtain ⟨i, hi, rfl⟩ := List.mem_iff_getElem.1 hr
  exact ferrZ_all (fun _ r => rulE r) s.rules 0 h1 i hi
theorem zHas_z (s : Src) (n : ByteArray) : zHas s.zones n = decide (0 ≤ zIdx s n) := by
  unfold zHas zIdx
  rw [fidx_any]
theorem lHas_l (s : Src) (n : ByteArray) : lHas s.links n = decide (0 ≤ lIdx s n) := by
  unfold lHas lIdx
  rw [fidx_any]
theorem fidx_ne {α : Type} (p : α → Bool) : ∀ (xs : List α) (k : Nat), fidx p xs = (k : Int) → ∀ (i : Nat) (hi : i < xs.length), i < k → p xs[i] = false
  | [], _, _, i, hi, _ => by simp at hi
  | x :: xs, k, h, i, hi, hik => by
    by_cases hp : p x = true
    · simp only [fidx, hp, if_true] at h
      omega
    · have hp' : p x = false := by simpa using hp
      simp only [fidx, hp'] at h
      rcases i with _ | i
      · exact hp'
      · have h1 : ∃ k' : Nat, k = k' + 1 ∧ fidx p xs = (k' : Int) := by
          have := fidx_lo p xs
          refine ⟨k - 1, by omega, ?_⟩
          by_cases e : fidx p xs < 0
          · first | (simp [e] at h; done) | (simp [e] at h; omega)
          · first | (simp [e] at h; done) | (simp [e] at h; omega)
        obtain ⟨k', rfl, h2⟩ := h1
        have := fidx_ne p xs k' h2 i (by simpa using hi) (by omega)
        simpa using this
theorem zIdx_take {s : Src} {i : Nat} (hi : i < s.zones.length) : zIdx s s.zones[i].nm = (i : Int) ↔ zHas (s.zones.take i) s.zones[i].nm = false := by
  unfold zHas zIdx
  rw [List.any_eq_false]
  constructor
  · intro h z hz
    obtain ⟨j, hj, rfl⟩ := List.mem_iff_getElem.1 hz
    rw [List.length_take] at hj
    have := fidx_ne _ s.zones i h j (by omega) (by omega)
    rw [List.getElem_take]
    simpa using this
  · intro h
    refine fidx_at _ s.zones i hi (fun j hj => ?_) (by simp)
    have := h (s.zones[j]'(by omega)) (List.mem_iff_getElem.2 ⟨j, by rw [List.length_take]; omega, by rw [List.getElem_take]⟩)
    simpa using this
end Go.Proofs.YtdpbedkppomffaaDoor
