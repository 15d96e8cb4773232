/-
  Code of a forest, plain: the whole.
-/
import Derived.Test.YtpnmaopompfalaaGenD
import Derived.Test.YtpnmaopompfalaaTreeJ
namespace Go.Proofs.Ytpnmaopompfalaa
set_option linter.unusedVariables false
set_option linter.unusedSimpArgs false
open Go.ChangeShapes Go.WideShapes Go.ChangeAt Go.RowKit

theorem gen_root {ns : List Nod} {ak : List Bool} (h0 : 0 < ns.length) (hr : askd ak (ns.length - 1) = true) : genS ns ak (ns.length - 1) = 0 := by
  have hf : fol ak ns.length = ((ns.length - 1 : Nat) : Int) := by
    obtain ⟨m, hm⟩ : ∃ m, ns.length = m + 1 := ⟨ns.length - 1, by omega⟩
    rw [hm] at hr ⊢
    have hr' : askd ak m = true := hr
    show (if askd ak m = true then (m : Int) else fol ak m) = _
    rw [if_pos hr']
    rfl
  have h := gen_fol (ns := ns) (ak := ak) ns.length (gen0 ns.length) (ns.length - 1) (Nat.le_refl _) (by simp [gen0]) hf
  unfold genS genAll
  rw [h]
  rfl
theorem genP_len (ns : List Nod) (ak : List Bool) (az : List Ans) : (genP ns ak az).code.length = (genAll ns ak).code.length := patch_len _ _
/-- the code of a forest that may be: it may be run. -/
theorem gen_good (f : Frs) (ak : List Bool) (h0 : frsE f = 0) (hak : AkOk f.nodes ak) (hr : askd ak (f.nodes.length - 1) = true) (h1 : (genAll f.nodes ak).code.length ≤ 8000) (h2 : (genAll f.nodes ak).pool.length ≤ 2000) : ∃ x y, verE (genP f.nodes ak f.answers) = (x, y, 0) := by
  obtain ⟨g0, g1, g2, g3, g4⟩ := frs_good h0
  have hL := lay_gen f.nodes ak f.answers hak
  obtain ⟨p, hp⟩ : ∃ p, p = genP f.nodes ak f.answers := ⟨_, rfl⟩
  have hlen : p.code.length ≤ 8000 := by rw [hp, genP_len]; exact h1
  have hans : p.answers = f.answers := by rw [hp]; rfl
  have hpool : p.pool.length ≤ 2000 := by rw [hp]; exact h2
  have hcov : ∀ k (hk : k < p.code.length), PlOk p k p.code[k] := fun k hk => by
    have hk' : k < (genAll f.nodes ak).code.length := by rw [← genP_len f.nodes ak f.answers, ← hp]; exact hk
    obtain ⟨i, hi, ha, o, e1, e2, e3⟩ := gen_cov (ns := f.nodes) (ak := ak) f.nodes.length (gen0 f.nodes.length) (Nat.le_refl _) (by simp [gen0]) k (Nat.zero_le _) hk'
    have hS : genS f.nodes ak i + o = k := by
      have h : ((genAll f.nodes ak).start.getD i 0) + (o : Int) = k := e1
      have hge : 0 ≤ (genAll f.nodes ak).start.getD i 0 := by
        have := gen_ge (ns := f.nodes) (ak := ak) f.nodes.length (gen0 f.nodes.length) i (Nat.le_refl _) (by simp [gen0]) hi ha
        exact Int.le_trans (Int.natCast_nonneg _) this
      unfold genS
      omega
    rw [← hp] at hL
    have hx : p.code[genS f.nodes ak i + o]? = some p.code[k] := by rw [hS]; exact List.getElem?_eq_getElem hk
    have := pl_ok hL (fun i hi => by rw [hans]; exact g4 i hi) hi ha o e2 e3 hx (by omega)
    rw [hS] at this
    exact this
  rw [← hp] at hL
  obtain ⟨r1, r2⟩ := lay_first hL (i := f.nodes.length - 1) (by omega) hr
  rw [gen_root g0 hr] at r1 r2
  have hprg : prgE p = 0 := by
    unfold prgE
    rw [if_neg (by omega), if_neg (by rw [hans]; omega)]
    have ha : anssE p.answers = 0 := by
      unfold anssE
      rw [hans]
      exact ferr_none _ _ _ fun i hi => g3 i hi
    rw [if_neg (by rw [ha]; simp)]
    exact ferr_none _ _ _ fun i hi => by rw [Nat.zero_add]; exact (hcov i hi).1
  obtain ⟨st, hs, _⟩ := scan_typed p.code (dAt p.code) r2 (fun k hk => (hcov k hk).2) p.code.length (Nat.le_refl _)
  rw [← hp]
  unfold verE
  rw [if_neg (by rw [hprg]; simp), hs]
  exact ⟨_, _, rfl⟩
/-- it runs to the tree's answer. -/
theorem gen_run (f : Frs) (ak : List Bool) (hak : AkOk f.nodes ak) (h0 : 0 < f.nodes.length) (hr : askd ak (f.nodes.length - 1) = true) (h1 : (genAll f.nodes ak).code.length ≤ 8000) {t : Int} {a : Nat} (hL : Lf f.nodes t (f.nodes.length - 1) a) (ha : a < f.answers.length) : ∃ k, Rn (genP f.nodes ak f.answers) t 0 [] 0 a k ∧ 0 ≤ k ∧ k ≤ 8000 := by
  obtain ⟨k, e1, e2, e3⟩ := lay_run (lay_gen f.nodes ak f.answers hak) hL hr a rfl ha 0 (Int.le_refl _) (by omega)
  rw [gen_root h0 hr] at e1
  exact ⟨k, e1, e2, by rw [genP_len] at e3; omega⟩
/-- a small forest's code is not too long. -/
theorem step_small {ns : List Nod} {ak : List Bool} {i : Nat} {g : Gs} : (gStep ns ak i g).code.length ≤ g.code.length + 5 ∧ (gStep ns ak i g).pool.length ≤ g.pool.length + 1 := by
  have hp : ∀ b, (poolP g.pool b).length ≤ g.pool.length + 1 := fun b => by unfold poolP; split <;> simp
  unfold gStep
  split
  · split
    · exact ⟨by omega, by omega⟩
    · split
      · exact ⟨by simp, by simp⟩
      · unfold gAsk
        split
        · exact ⟨by simp, hp _⟩
        · exact ⟨by simp, hp _⟩
  · exact ⟨by omega, by omega⟩
theorem gen_small {ns : List Nod} {ak : List Bool} : ∀ (k : Nat) (g : Gs), (gen ns ak k g).code.length ≤ g.code.length + 5 * k ∧ (gen ns ak k g).pool.length ≤ g.pool.length + k
  | 0, g => ⟨by show g.code.length ≤ _; omega, by show g.pool.length ≤ _; omega⟩
  | k + 1, g => by
    obtain ⟨h1, h2⟩ := gen_small (ns := ns) (ak := ak) k (gStep ns ak k g)
    obtain ⟨h3, h4⟩ := step_small (ns := ns) (ak := ak) (i := k) (g := g)
    exact ⟨by show (gen ns ak k (gStep ns ak k g)).code.length ≤ _; omega, by show (gen ns ak k (gStep ns ak k g)).pool.length ≤ _; omega⟩
theorem genAll_small (ns : List Nod) (ak : List Bool) : (genAll ns ak).code.length ≤ 5 * ns.length ∧ (genAll ns ak).pool.length ≤ ns.length := by
  have h := gen_small (ns := ns) (ak := ak) ns.length (gen0 ns.length)
  have e1 : (gen0 ns.length).code.length = 0 := rfl
  have e2 : (gen0 ns.length).pool.length = 0 := rfl
  rw [e1, e2, Nat.zero_add, Nat.zero_add] at h
  exact h
end Go.Proofs.Ytpnmaopompfalaa
