/-
  Code of a forest, plain: it is verified, and it runs to the tree's answer.
-/
import Derived.Test.YtpnmaopompfalaaGenC
namespace Go.Proofs.Ytpnmaopompfalaa
set_option linter.unusedVariables false
set_option linter.unusedSimpArgs false
open Go.ChangeShapes Go.WideShapes Go.ChangeAt Go.RowKit

theorem step_more {ns : List Nod} {ak : List Bool} {i : Nat} {g : Gs} (hi : i < ns.length) : (askd ak i = true ∧ ∃ c : Nat, (gStep ns ak i g).code.length = g.code.length + c ∧ (ns[i].lf = true → c = 1) ∧ (ns[i].lf = false → c ≤ 5)) ∨ gStep ns ak i g = g := by
  by_cases ha : askd ak i = true
  · left
    refine ⟨ha, ?_⟩
    unfold gStep
    rw [if_pos ha, List.getElem?_eq_getElem hi]
    dsimp only
    by_cases hl : ns[i].lf = true
    · rw [if_pos hl]
      exact ⟨1, by simp, fun _ => rfl, fun h => by rw [hl] at h; cases h⟩
    · rw [if_neg hl]
      unfold gAsk
      split
      · exact ⟨5, by simp, fun h => absurd h hl, fun _ => Nat.le_refl _⟩
      · exact ⟨4, by simp, fun h => absurd h hl, fun _ => by omega⟩
  · right
    unfold gStep
    rw [if_neg ha]
/-- each place of the code belongs to an asked node. -/
theorem gen_cov {ns : List Nod} {ak : List Bool} : ∀ (k : Nat) (g : Gs), k ≤ ns.length → g.start.length = ns.length → ∀ j, g.code.length ≤ j → j < (gen ns ak k g).code.length → ∃ i, ∃ hi : i < ns.length, askd ak i = true ∧ ∃ o : Nat, (gen ns ak k g).start.getD i 0 + o = j ∧ (ns[i].lf = true → o = 0) ∧ (ns[i].lf = false → o ≤ 4)
  | 0, g, hk, hl, j, h1, h2 => by exact absurd h2 (by show ¬ j < g.code.length; omega)
  | k + 1, g, hk, hl, j, h1, h2 => by
    have e := step_ext ns ak k g
    have hl2 : (gStep ns ak k g).start.length = ns.length := by rw [e.2.2.2.1, hl]
    rcases Nat.lt_or_ge j (gStep ns ak k g).code.length with h | h
    · rcases step_more (ns := ns) (ak := ak) (i := k) (g := g) (by omega) with ⟨ha, c, c1, c2, c3⟩ | hs
      · refine ⟨k, by omega, ha, j - g.code.length, ?_, fun hlf => by have := c2 hlf; omega, fun hlf => by have := c3 hlf; omega⟩
        show (gen ns ak k (gStep ns ak k g)).start.getD k 0 + _ = _
        rw [(gen_ext ns ak k _).2.2.2.2 k (Nat.le_refl _), step_start ha (by omega) hl]
        omega
      · rw [hs] at h; omega
    · exact gen_cov k (gStep ns ak k g) (by omega) hl2 j h h2
def dOf (op : Int) : Int := if op = 2 then 2 else if op = 3 then 3 else if op = 4 then 2 else 1
def dAt (c : List Ins) (k : Nat) : Int := dOf (c.getD k ⟨0, 0⟩).op
theorem dAt_of {c : List Ins} {k : Nat} {x : Ins} (h : c[k]? = some x) : dAt c k = dOf x.op := by
  unfold dAt
  rw [List.getD_eq_getElem?_getD, h]
  rfl
theorem lay_first {p : Prg} {ns : List Nod} {S : Nat → Nat} {A : Nat → Bool} (hL : Lay p ns S A) {i : Nat} (hi : i < ns.length) (ha : A i = true) : S i < p.code.length ∧ dAt p.code (S i) = 1 := by
  cases hlf : ns[i].lf with
  | true =>
    have h := (hL i hi ha).1 hlf
    exact ⟨(List.getElem?_eq_some_iff.1 h).1, by rw [dAt_of h]; rfl⟩
  | false =>
    obtain ⟨l, m, k, d, _, _, _, _, _, h, _⟩ := (hL i hi ha).2 hlf
    exact ⟨(List.getElem?_eq_some_iff.1 h).1, by rw [dAt_of h]; rfl⟩
/-- what is told of a place of the code. -/
def PlOk (p : Prg) (k : Nat) (x : Ins) : Prop := insE1 p k x = 0 ∧ needI x.op ≤ dAt p.code k - 1 ∧ dAt p.code k - 1 + moreI x.op ≤ 8 ∧ ∀ t ∈ nextI k x, 0 ≤ t ∧ t < p.code.length ∧ dAt p.code t.toNat = dAt p.code k + moreI x.op
theorem ins_ok {p : Prg} {k : Nat} {x : Ins} (h1 : 1 ≤ x.op ∧ x.op ≤ 6) (h2 : 0 ≤ x.n ∧ x.n ≤ mostI p k x.op) : insE1 p k x = 0 := by
  unfold insE1
  rw [if_neg (by omega), if_neg (by omega)]
theorem pl_ok {p : Prg} {ns : List Nod} {S : Nat → Nat} {A : Nat → Bool} (hL : Lay p ns S A) (hn : ∀ i (hi : i < ns.length), nodE p.answers.length (i : Nat) ns[i] = 0) {i : Nat} (hi : i < ns.length) (ha : A i = true) (o : Nat) (h1 : ns[i].lf = true → o = 0) (h2 : ns[i].lf = false → o ≤ 4) {x : Ins} (hx : p.code[S i + o]? = some x) (hlt : S i + o < p.code.length) : PlOk p (S i + o) x := by
  cases hlf : ns[i].lf with
  | true =>
    obtain rfl := h1 hlf
    have hc := (hL i hi ha).1 hlf
    rw [Nat.add_zero, hc] at hx
    cases hx
    have hni := hn i hi
    unfold nodE at hni
    rw [if_pos hlf] at hni
    have hb : 0 ≤ ns[i].an ∧ ns[i].an < p.answers.length := by
      by_cases q : ns[i].an < 0 ∨ (p.answers.length : Int) ≤ ns[i].an
      · rw [if_pos q] at hni; exact absurd hni (by decide)
      · omega
    refine ⟨ins_ok ⟨by simp, by simp⟩ ⟨hb.1, ?_⟩, ?_, ?_, fun t ht => ?_⟩
    · unfold mostI; rw [if_neg (by simp), if_pos rfl]; show ns[i].an ≤ _; omega
    · rw [Nat.add_zero, dAt_of hc]; unfold needI dOf; simp
    · rw [Nat.add_zero, dAt_of hc]; unfold moreI dOf; simp
    · unfold nextI at ht; simp at ht
  | false =>
    obtain ⟨l, m, k, d, e1, e2, A1, A2, hp, q0, q1, q2, q3, hm, hless⟩ := (hL i hi ha).2 hlf
    have b1 := (List.getElem?_eq_some_iff.1 q1).1
    have b2 := (List.getElem?_eq_some_iff.1 q2).1
    have b3 := (List.getElem?_eq_some_iff.1 q3).1
    have bk := (List.getElem?_eq_some_iff.1 hp).1
    have hni := hn i hi
    unfold nodE at hni
    rw [if_neg (by simp [hlf])] at hni
    have hlm : 0 ≤ ns[i].ls ∧ ns[i].ls < i ∧ 0 ≤ ns[i].mr ∧ ns[i].mr < i := by
      by_cases q : ns[i].an ≠ 0
      · rw [if_pos q] at hni; exact absurd hni (by decide)
      · rw [if_neg q] at hni
        by_cases q' : ns[i].ls < 0 ∨ (i : Int) ≤ ns[i].ls ∨ ns[i].mr < 0 ∨ (i : Int) ≤ ns[i].mr
        · rw [if_pos q'] at hni; exact absurd hni (by decide)
        · omega
    obtain ⟨fm, gm⟩ := lay_first hL (i := m) (by omega) A2
    obtain ⟨fl, gl⟩ := lay_first hL (i := l) (by omega) A1
    have ho := h2 hlf
    rcases (show o = 0 ∨ o = 1 ∨ o = 2 ∨ o = 3 ∨ o = 4 by omega) with rfl | rfl | rfl | rfl | rfl
    · rw [Nat.add_zero, q0] at hx
      cases hx
      refine ⟨ins_ok ⟨by simp, by simp⟩ ⟨by simp, by simp [mostI]⟩, ?_, ?_, fun t ht => ?_⟩
      · rw [Nat.add_zero, dAt_of q0]; simp [needI, dOf]
      · rw [Nat.add_zero, dAt_of q0]; simp [moreI, dOf]
      · have ht' : t = ((S i + 1 : Nat) : Int) := by simpa [nextI] using ht
        subst ht'
        have z : dAt p.code (S i + 0) = 1 := dAt_of (x := ⟨1, 0⟩) q0
        rw [Int.toNat_natCast, z, dAt_of q1]
        exact ⟨by omega, by omega, by simp [dOf, moreI]⟩
    · rw [q1] at hx
      cases hx
      refine ⟨ins_ok ⟨by simp, by simp⟩ ⟨by simp, by simp [mostI]; omega⟩, ?_, ?_, fun t ht => ?_⟩
      · rw [dAt_of q1]; simp [needI, dOf]
      · rw [dAt_of q1]; simp [moreI, dOf]
      · have ht' : t = ((S i + 2 : Nat) : Int) := by
          have : t = ((S i + 1 : Nat) : Int) + 1 := by simpa [nextI] using ht
          omega
        subst ht'
        rw [Int.toNat_natCast, dAt_of q1, dAt_of q2]
        exact ⟨by omega, by omega, by simp [dOf, moreI]⟩
    · rw [q2] at hx
      cases hx
      refine ⟨ins_ok ⟨by simp, by simp⟩ ⟨by simp, by simp [mostI]⟩, ?_, ?_, fun t ht => ?_⟩
      · rw [dAt_of q2]; simp [needI, dOf]
      · rw [dAt_of q2]; simp [moreI, dOf]
      · have ht' : t = ((S i + 3 : Nat) : Int) := by
          have : t = ((S i + 2 : Nat) : Int) + 1 := by simpa [nextI] using ht
          omega
        subst ht'
        rw [Int.toNat_natCast, dAt_of q2, dAt_of q3]
        exact ⟨by omega, by omega, by simp [dOf, moreI]⟩
    · rw [q3] at hx
      cases hx
      refine ⟨ins_ok ⟨by simp, by simp⟩ ⟨by simp, by simp [mostI]; omega⟩, ?_, ?_, fun t ht => ?_⟩
      · rw [dAt_of q3]; simp [needI, dOf]
      · rw [dAt_of q3]; simp [moreI, dOf]
      · have ht' : t = ((S i + 4 : Nat) : Int) ∨ t = ((S m : Nat) : Int) := by
          have : t = ((S i + 3 : Nat) : Int) + 1 ∨ t = ((S i + 3 : Nat) : Int) + 1 + d := by simpa [nextI] using ht
          omega
        have hd3 : dAt p.code (S i + 3) + moreI 4 = 1 := by rw [dAt_of q3]; simp [dOf, moreI]
        rcases ht' with rfl | rfl
        · rw [Int.toNat_natCast]
          rcases hless with ⟨d2, q4, _⟩ | q4
          · have b4 := (List.getElem?_eq_some_iff.1 q4).1
            exact ⟨by omega, by omega, by rw [hd3, dAt_of q4]; simp [dOf]⟩
          · rw [← q4]
            exact ⟨by omega, by omega, by rw [hd3]; exact gl⟩
        · rw [Int.toNat_natCast]
          exact ⟨by omega, by omega, by rw [hd3]; exact gm⟩
    · rcases hless with ⟨d2, q4, hd2⟩ | q4
      · rw [q4] at hx
        cases hx
        refine ⟨ins_ok ⟨by simp, by simp⟩ ⟨by simp, by simp [mostI]; omega⟩, ?_, ?_, fun t ht => ?_⟩
        · rw [dAt_of q4]; simp [needI, dOf]
        · rw [dAt_of q4]; simp [moreI, dOf]
        · have ht' : t = ((S l : Nat) : Int) := by
            have : t = ((S i + 4 : Nat) : Int) + 1 + d2 := by simpa [nextI] using ht
            omega
          subst ht'
          rw [Int.toNat_natCast, dAt_of q4]
          exact ⟨by omega, by omega, by rw [gl]; simp [dOf, moreI]⟩
      · rw [← q4] at hx ⊢
        exact pl_ok hL hn (i := l) (by omega) A1 0 (fun _ => rfl) (fun _ => by omega) hx (by omega)
termination_by i * 8 + o
decreasing_by omega
end Go.Proofs.Ytpnmaopompfalaa
