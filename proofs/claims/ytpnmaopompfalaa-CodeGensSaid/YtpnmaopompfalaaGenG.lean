/-
  Which nodes of a forest are asked, plain.
-/
import Derived.Test.YtpnmaopompfalaaGenE
namespace Go.Proofs.Ytpnmaopompfalaa
set_option linter.unusedVariables false
set_option linter.unusedSimpArgs false
open Go.ChangeShapes Go.WideShapes Go.ChangeAt Go.RowKit

def rStep (ns : List Nod) (i : Nat) (o : List Bool) : List Bool := match ns[i]? with
  | none => o
  | some n => if askd o i = true ∧ n.lf = false then (o.set n.ls.toNat true).set n.mr.toNat true else o
/-- the nodes below k, the highest first. -/
def rch (ns : List Nod) : Nat → List Bool → List Bool
  | 0, o => o
  | k + 1, o => rch ns k (rStep ns k o)
/-- the nodes that are asked from the root. -/
def reachD (ns : List Nod) : List Bool := rch ns ns.length ((List.replicate ns.length false).set (ns.length - 1) true)
def Chl (ns : List Nod) : Prop := ∀ i (hi : i < ns.length), ns[i].lf = false → 0 ≤ ns[i].ls ∧ ns[i].ls < i ∧ 0 ≤ ns[i].mr ∧ ns[i].mr < i
theorem askd_set (o : List Bool) (i j : Nat) : askd (o.set i true) j = if i = j ∧ i < o.length then true else askd o j := by
  unfold askd
  simp only [List.getD_eq_getElem?_getD, List.getElem?_set]
  by_cases h : i = j
  · subst h
    by_cases h2 : i < o.length
    · simp [h2]
    · simp [h2, List.getElem?_eq_none (Nat.le_of_not_lt h2)]
  · simp [h]
theorem rStep_len (ns : List Nod) (i : Nat) (o : List Bool) : (rStep ns i o).length = o.length := by
  unfold rStep
  split
  · rfl
  · split
    · simp
    · rfl
theorem rch_len (ns : List Nod) : ∀ (k : Nat) (o : List Bool), (rch ns k o).length = o.length
  | 0, o => rfl
  | k + 1, o => by
    show (rch ns k (rStep ns k o)).length = _
    rw [rch_len ns k, rStep_len]
theorem rStep_keep {ns : List Nod} {i j : Nat} {o : List Bool} (h : askd o j = true) : askd (rStep ns i o) j = true := by
  unfold rStep
  split
  · exact h
  · split
    · rw [askd_set]; split
      · rfl
      · rw [askd_set]; split
        · rfl
        · exact h
    · exact h
theorem rch_keep {ns : List Nod} : ∀ (k : Nat) {j : Nat} {o : List Bool}, askd o j = true → askd (rch ns k o) j = true
  | 0, j, o, h => h
  | k + 1, j, o, h => rch_keep k (rStep_keep h)
theorem rStep_above {ns : List Nod} (hc : Chl ns) {i j : Nat} {o : List Bool} (hj : i ≤ j) : askd (rStep ns i o) j = askd o j := by
  unfold rStep
  split
  · rfl
  · rename_i n hn
    obtain ⟨hi, he⟩ := List.getElem?_eq_some_iff.1 hn
    split
    · rename_i hh
      have := hc i hi (by rw [he]; exact hh.2)
      rw [he] at this
      rw [askd_set, if_neg (by omega), askd_set, if_neg (by omega)]
    · rfl
theorem rch_above {ns : List Nod} (hc : Chl ns) : ∀ (k : Nat) {j : Nat} {o : List Bool}, k ≤ j → askd (rch ns k o) j = askd o j
  | 0, j, o, h => rfl
  | k + 1, j, o, h => by
    show askd (rch ns k (rStep ns k o)) j = _
    rw [rch_above hc k (by omega), rStep_above hc (by omega)]
theorem rch_ok {ns : List Nod} (hc : Chl ns) : ∀ (k : Nat) (o : List Bool), k ≤ ns.length → o.length = ns.length → ∀ i (hi : i < ns.length), i < k → askd (rch ns k o) i = true → ns[i].lf = false → askd (rch ns k o) ns[i].ls.toNat = true ∧ askd (rch ns k o) ns[i].mr.toNat = true
  | k + 1, o, hk, ho, i, hi, hik, ha, hl => by
    have ho2 : (rStep ns k o).length = ns.length := by rw [rStep_len, ho]
    rcases Nat.lt_or_ge i k with h | h
    · exact rch_ok hc k (rStep ns k o) (by omega) ho2 i hi h ha hl
    · obtain rfl : i = k := by omega
      have ha2 : askd (rch ns i (rStep ns i o)) i = true := ha
      rw [rch_above hc i (Nat.le_refl _), rStep_above hc (Nat.le_refl _)] at ha2
      obtain ⟨c1, c2, c3, c4⟩ := hc i hi hl
      have hs : rStep ns i o = (o.set ns[i].ls.toNat true).set ns[i].mr.toNat true := by
        unfold rStep
        rw [List.getElem?_eq_getElem hi]
        dsimp only
        rw [if_pos ⟨ha2, hl⟩]
      refine ⟨rch_keep i ?_, rch_keep i ?_⟩
      · rw [hs, askd_set]
        split
        · rfl
        · rw [askd_set, if_pos ⟨rfl, by omega⟩]
      · rw [hs, askd_set, if_pos ⟨rfl, by simp; omega⟩]
theorem reach_ok {ns : List Nod} (hc : Chl ns) : AkOk ns (reachD ns) := fun i hi ha hl => by
  obtain ⟨c1, c2, c3, c4⟩ := hc i hi hl
  obtain ⟨h1, h2⟩ := rch_ok hc ns.length _ (Nat.le_refl _) (by simp) i hi hi ha hl
  exact ⟨ns[i].ls.toNat, ns[i].mr.toNat, by omega, by omega, by omega, by omega, h1, h2⟩
theorem reach_root {ns : List Nod} (h0 : 0 < ns.length) : askd (reachD ns) (ns.length - 1) = true :=
  rch_keep _ (by rw [askd_set, if_pos ⟨rfl, by simp; omega⟩])
theorem reach_len (ns : List Nod) : (reachD ns).length = ns.length := by unfold reachD; rw [rch_len]; simp
/-- of a forest that may be. -/
theorem frs_chl {f : Frs} (h : frsE f = 0) : Chl f.nodes := fun i hi hl => by
  obtain ⟨_, _, _, _, g4⟩ := frs_good h
  have hni := g4 i hi
  unfold nodE at hni
  rw [if_neg (by simp [hl])] at hni
  by_cases q : f.nodes[i].an ≠ 0
  · rw [if_pos q] at hni; exact absurd hni (by decide)
  · rw [if_neg q] at hni
    by_cases q' : f.nodes[i].ls < 0 ∨ (i : Int) ≤ f.nodes[i].ls ∨ f.nodes[i].mr < 0 ∨ (i : Int) ≤ f.nodes[i].mr
    · rw [if_pos q'] at hni; exact absurd hni (by decide)
    · omega
end Go.Proofs.Ytpnmaopompfalaa
