/-
  ErasEnd, plain: the source that the law makes; its clocks.
-/
import Derived.Test.YtdpbedkppomffaaDoorAtE
namespace Go.Proofs.YtdpbedkppomffaaDoor
set_option linter.unusedVariables false
set_option linter.unusedSimpArgs false
open Go.ChangeShapes Go.WideShapes Go.ChangeAt Go.RowKit Civ

def enX (o a t : Int) : Ero := ⟨o, ⟨#[]⟩, 0, ⟨#[65]⟩, true, a, ⟨6, 1, 0, 15, t, 0⟩⟩
def enY (o : Int) : Ero := ⟨o + 1800, ⟨#[]⟩, 0, ⟨#[66]⟩, false, 0, ⟨0, 0, 0, 0, 0, 0⟩⟩
def enS (o a t : Int) : Src := ⟨[], [⟨⟨#[122]⟩, [enX o a t, enY o]⟩], []⟩
theorem en_fnd (a : Int) : fnd a 6 1 0 15 = num a 6 15 := by
  unfold fnd num
  rw [if_pos rfl]
  omega
theorem enE {o a t : Int} (ho : -43200 ≤ o ∧ o ≤ 43200) (ha : 1910 ≤ a ∧ a ≤ 2089) (ht : 0 ≤ t ∧ t < 86400) : srcE (enS o a t) = 0 := by
  have hX : eroE [] (enX o a t) false = 0 := by
    have h1 : eroF (enX o a t) false = false := by
      unfold eroF enX
      rw [show fmtL ([65] : List UInt8) = true from by decide]
      simp
      exact fun h => absurd rfl h
    have h2 : chkM 6 1 0 15 t 0 = 0 := by
      unfold chkM
      rw [show chk 1 0 15 = 0 from by decide]
      simp
      omega
    have h3 : fndE a 6 1 0 15 = 0 := by
      unfold fndE
      rw [show chk 1 0 15 = 0 from by decide]
      simp
      have : dim a 6 = 30 := by unfold dim; simp; decide
      omega
    unfold eroE
    rw [h1, if_neg (by simp)]
    rw [if_neg (show ¬ ((enX o a t).off < -86400 ∨ 86400 < (enX o a t).off ∨ (enX o a t).sv < -86400 ∨ 86400 < (enX o a t).sv) from by simp only [enX]; omega), if_neg (show ¬ ((enX o a t).rl ≠ ByteArray.empty ∧ namedB [] (enX o a t).rl = false) from fun h => h.1 rfl), if_neg (by simp), if_neg (show ¬ ((enX o a t).yr < 1900 ∨ 2099 < (enX o a t).yr) from by simp only [enX]; omega)]
    show (if chkM 6 1 0 15 t 0 ≠ 0 then chkM 6 1 0 15 t 0 else fndE a 6 1 0 15) = 0
    rw [h2, if_neg (by simp), h3]
  have hY : eroE [] (enY o) true = 0 := by
    have h1 : eroF (enY o) true = false := by
      unfold eroF enY
      rw [show fmtL ([66] : List UInt8) = true from by decide]
      simp [mom0]
      exact fun h => absurd rfl h
    unfold eroE
    rw [h1, if_neg (by simp)]
    rw [if_neg (show ¬ ((enY o).off < -86400 ∨ 86400 < (enY o).off ∨ (enY o).sv < -86400 ∨ 86400 < (enY o).sv) from by simp only [enY]; omega), if_neg (show ¬ ((enY o).rl ≠ ByteArray.empty ∧ namedB [] (enY o).rl = false) from fun h => h.1 rfl), if_pos rfl]
  have h4 : erosE [] [enX o a t, enY o] = 0 := by
    refine ferr_none _ _ _ fun i hi => ?_
    rcases i with _ | _ | i
    · exact hX
    · exact hY
    · simp only [List.length_cons, List.length_nil] at hi; omega
  have h5 : zonE [] ⟨⟨#[122]⟩, [enX o a t, enY o]⟩ = 0 := by
    rw [zonE_d (show nameS ⟨#[122]⟩ = true from by decide) (by simp) h4]
    rfl
  have h6 : zonsE (enS o a t) = 0 := by
    refine ferr_none _ _ _ fun i hi => ?_
    rcases i with _ | i
    · show zonF (enS o a t) 0 ⟨⟨#[122]⟩, [enX o a t, enY o]⟩ = 0
      unfold zonF
      rw [show (enS o a t).rules = [] from rfl, h5]
      rfl
    · simp [enS] at hi
  unfold srcE
  rw [h6]
  rfl
theorem enF (o a t : Int) : folL (enS o a t) 8 ⟨#[122]⟩ = 0 := by
  have h : zIdx (enS o a t) ⟨#[122]⟩ = 0 := fidx_at _ _ 0 (by simp [enS]) (fun i hi => by omega) (decide_eq_true rfl)
  unfold folL
  rw [h]
  rfl
/-- where the first era ends. -/
def enN (o a t : Int) : Int := num a 6 15 * 86400 + t - o
theorem enU (o a t : Int) : untL [] [enX o a t, enY o] = [enN o a t] := by
  show [endE [] (enX o a t)] = _
  have h1 : svE [] (enX o a t) = 0 := by
    unfold svE
    rw [if_pos (show (enX o a t).un.c = 0 from rfl)]
    unfold stL
    rw [if_pos (show (enX o a t).rl = ByteArray.empty from rfl)]
    rfl
  unfold endE
  rw [h1]
  show [ins a 6 1 0 15 t 0 o 0] = _
  unfold ins enN
  rw [if_pos rfl, en_fnd, Int.add_zero]
theorem en_num {a : Int} (ha : 1910 ≤ a ∧ a ≤ 2089) : -23000 ≤ num a 6 15 ∧ num a 6 15 ≤ 44300 := by
  have h1 := fst_mono 1910 a ha.1
  have h2 := fst_mono a 2090 (by omega)
  have h3 : fst 1910 = -21915 := by decide
  have h4 : fst 2090 = 43830 := by decide
  have h5 := ah_bd a 6 (by decide) (by decide)
  unfold num
  omega
theorem en_at {o a t : Int} (ho : -43200 ≤ o ∧ o ≤ 43200) (ha : 1910 ≤ a ∧ a ≤ 2089) (ht : 0 ≤ t ∧ t < 86400) (u : Int) (hu : u = enN o a t - 1 ∨ u = enN o a t) :
    atE (enS o a t) ⟨#[122]⟩ u = 0 ∧ atC (enS o a t) ⟨#[122]⟩ u = if u < enN o a t then ⟨o, false, ⟨#[65]⟩⟩ else ⟨o + 1800, false, ⟨#[66]⟩⟩ := by
  have hN : -2000000000 ≤ enN o a t ∧ enN o a t ≤ 4000000000 := by have := en_num ha; unfold enN; omega
  have hF : fndS (enS o a t) ⟨#[122]⟩ = 0 := by unfold fndS; rw [enE ho ha ht, enF]; rfl
  have hE : atE (enS o a t) ⟨#[122]⟩ u = 0 := atE_z hF (by omega)
  refine ⟨hE, ?_⟩
  rw [atC_z hE (i := 0) (by simp [enS]) (enF o a t)]
  show clkT [] [enX o a t, enY o] (untL [] [enX o a t, enY o]) u = _
  rw [enU]
  unfold clkT
  by_cases h : u < enN o a t
  · have e : eraI [enN o a t] u = 0 := by rw [eraI_cons, if_neg (by omega)]
    rw [e, if_pos h]
    show clkI [] (enX o a t) u = _
    unfold clkI stL
    rw [if_pos (show (enX o a t).rl = ByteArray.empty from rfl)]
    show (⟨o + 0, false, ⟨(fmtN [65] [] false).toArray⟩⟩ : Clk) = _
    rw [show fmtN [65] [] false = [65] from by decide, Int.add_zero]
  · have e : eraI [enN o a t] u = 1 := by rw [eraI_cons, if_pos (by omega)]; rfl
    rw [e, if_neg h]
    show clkI [] (enY o) u = _
    unfold clkI stL
    rw [if_pos (show (enY o).rl = ByteArray.empty from rfl)]
    show (⟨o + 1800 + 0, false, ⟨(fmtN [66] [] false).toArray⟩⟩ : Clk) = _
    rw [show fmtN [66] [] false = [66] from by decide, Int.add_zero]
end Go.Proofs.YtdpbedkppomffaaDoor
