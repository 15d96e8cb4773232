/-
  tree.shared, plain: trees that are the same are one.
-/
import Derived.Test.YtlhidbbphngpcaaOptB
namespace Go.Proofs.Ytlhidbbphngpcaa
set_option linter.unusedVariables false
set_option linter.unusedSimpArgs false
open Go.ChangeShapes Go.WideShapes Go.ChangeAt Go.RowKit

def renN (now : List Nat) (n : Nod) : Nod := if n.lf = true then n else ⟨n.lf, n.an, n.bd, ((now.getD n.ls.toNat 0 : Nat) : Int), ((now.getD n.mr.toNat 0 : Nat) : Int)⟩
/-- the first k nodes are laid: out, and where each has come to. -/
structure ShI (ns : List Nod) (k : Nat) (out : List Nod) (now : List Nat) : Prop where
  len : now.length = k
  le : k ≤ ns.length
  img : ∀ i (h : i < k), ∃ h' : i < ns.length, ∃ h1 : i < now.length, ∃ h2 : now[i] < out.length, out[now[i]] = renN now ns[i]
  dup : ∀ i j (hi : i < out.length) (hj : j < out.length), i ≠ j → out[i] ≠ out[j]
  fst : ∀ p (h : p < out.length), ∃ i, i < k ∧ ∃ h1 : i < now.length, now[i] = p ∧ ∀ j (hj : j < i), now[j]'(by omega) < p
theorem ShI.zero (ns : List Nod) : ShI ns 0 [] [] := ⟨rfl, Nat.zero_le _, fun i h => by omega, fun i j h => by simp at h, fun p h => by simp at h⟩
theorem renN_lf (now : List Nat) (n : Nod) : (renN now n).lf = n.lf := by unfold renN; split <;> simp_all
theorem renN_an (now : List Nat) (n : Nod) : (renN now n).an = n.an := by unfold renN; split <;> simp_all
theorem renN_bd (now : List Nat) (n : Nod) : (renN now n).bd = n.bd := by unfold renN; split <;> simp_all
theorem renN_leaf {now : List Nat} {n : Nod} (h : n.lf = true) : renN now n = n := by unfold renN; rw [if_pos h]
theorem renN_ask {now : List Nat} {n : Nod} (h : n.lf = false) : renN now n = ⟨n.lf, n.an, n.bd, ((now.getD n.ls.toNat 0 : Nat) : Int), ((now.getD n.mr.toNat 0 : Nat) : Int)⟩ := by unfold renN; rw [if_neg (by rw [h]; simp)]
theorem nod_ask {m i : Int} {n : Nod} (h : nodE m i n = 0) (e : n.lf = false) : n.an = 0 ∧ 0 ≤ n.ls ∧ n.ls < i ∧ 0 ≤ n.mr ∧ n.mr < i := by
  have hc := nodE_cases m i n
  rw [e, h] at hc
  simp at hc
  omega
theorem nod_leaf {m i : Int} {n : Nod} (h : nodE m i n = 0) (e : n.lf = true) : 0 ≤ n.an ∧ n.an < m ∧ n.bd = 0 ∧ n.ls = 0 ∧ n.mr = 0 := by
  have hc := nodE_cases m i n
  rw [e, h] at hc
  simp at hc
  omega
theorem getD_snoc {now : List Nat} {x j : Nat} (h : j < now.length) : (now ++ [x]).getD j 0 = now.getD j 0 := by
  rw [List.getD_eq_getElem?_getD, List.getD_eq_getElem?_getD, List.getElem?_append_left h]
theorem renN_snoc {now : List Nat} {x : Nat} {n : Nod} {m i : Int} (h : nodE m i n = 0) (hi : i ≤ now.length) : renN (now ++ [x]) n = renN now n := by
  cases e : n.lf with
  | true => rw [renN_leaf e, renN_leaf e]
  | false =>
    obtain ⟨_, h1, h2, h3, h4⟩ := nod_ask h e
    rw [renN_ask e, renN_ask e, getD_snoc (by omega), getD_snoc (by omega)]
/-- a node that is there already. -/
theorem ShI.old {ns out : List Nod} {now : List Nat} {k p : Nat} {m : Int} (h : ShI ns k out now) (ok : ∀ i (h : i < ns.length), nodE m i ns[i] = 0) (hk : k < ns.length) (hp : p < out.length) (he : out[p] = renN now ns[k]) : ShI ns (k + 1) out (now ++ [p]) where
  len := by rw [List.length_append, h.len]; rfl
  le := hk
  img := fun i hi => by
    by_cases e : i < k
    · obtain ⟨h', h1, h2, h3⟩ := h.img i e
      refine ⟨h', by rw [List.length_append]; omega, ?_⟩
      have e1 : (now ++ [p])[i]'(by rw [List.length_append]; omega) = now[i] := List.getElem_append_left h1
      simp only [e1]
      exact ⟨h2, by rw [h3, renN_snoc (ok i h') (by rw [h.len]; omega)]⟩
    · obtain rfl : i = k := by omega
      have hl := h.len
      refine ⟨hk, by rw [List.length_append, hl]; simp, ?_⟩
      have e1 : (now ++ [p])[i]'(by rw [List.length_append, hl]; simp) = p := by
        rw [List.getElem_append_right (by omega)]; simp
      simp only [e1]
      exact ⟨hp, by rw [he, renN_snoc (ok i hk) (by rw [h.len]; omega)]⟩
  dup := h.dup
  fst := fun q hq => by
    obtain ⟨i, h1, h2, h3, h4⟩ := h.fst q hq
    refine ⟨i, by omega, by rw [List.length_append]; omega, by rw [List.getElem_append_left h2]; exact h3, fun j hj => ?_⟩
    rw [List.getElem_append_left (by omega)]
    exact h4 j hj
/-- a node that is new. -/
theorem ShI.new {ns out : List Nod} {now : List Nat} {k : Nat} {m : Int} (h : ShI ns k out now) (ok : ∀ i (h : i < ns.length), nodE m i ns[i] = 0) (hk : k < ns.length) (he : ∀ p (hp : p < out.length), out[p] ≠ renN now ns[k]) : ShI ns (k + 1) (out ++ [renN now ns[k]]) (now ++ [out.length]) where
  len := by rw [List.length_append, h.len]; rfl
  le := hk
  img := fun i hi => by
    by_cases e : i < k
    · obtain ⟨h', h1, h2, h3⟩ := h.img i e
      refine ⟨h', by rw [List.length_append]; omega, ?_⟩
      have e1 : (now ++ [out.length])[i]'(by rw [List.length_append]; omega) = now[i] := List.getElem_append_left h1
      simp only [e1]
      exact ⟨by rw [List.length_append]; omega, by rw [List.getElem_append_left h2, h3, renN_snoc (ok i h') (by rw [h.len]; omega)]⟩
    · obtain rfl : i = k := by omega
      have hl := h.len
      refine ⟨hk, by rw [List.length_append, hl]; simp, ?_⟩
      have e1 : (now ++ [out.length])[i]'(by rw [List.length_append, hl]; simp) = out.length := by
        rw [List.getElem_append_right (by omega)]; simp
      simp only [e1]
      refine ⟨by simp, ?_⟩
      rw [renN_snoc (ok i hk) (by rw [h.len]; omega)]
      simp
  dup := fun i j hi hj hij => by
    have key : ∀ a (ha : a < out.length), (out ++ [renN now ns[k]])[a]'(by simp; omega) = out[a] := fun a ha => List.getElem_append_left ha
    have kl : (out ++ [renN now ns[k]])[out.length]'(by simp) = renN now ns[k] := by simp
    rw [List.length_append] at hi hj
    simp at hi hj
    by_cases e1 : i < out.length
    · by_cases e2 : j < out.length
      · rw [key i e1, key j e2]; exact h.dup i j e1 e2 hij
      · obtain rfl : j = out.length := by omega
        rw [key i e1, kl]; exact he i e1
    · obtain rfl : i = out.length := by omega
      have e2 : j < out.length := by omega
      rw [key j e2, kl]
      exact fun e => he j e2 e.symm
  fst := fun q hq => by
    by_cases e : q < out.length
    · obtain ⟨i, h1, h2, h3, h4⟩ := h.fst q e
      refine ⟨i, by omega, by rw [List.length_append]; omega, by rw [List.getElem_append_left h2]; exact h3, fun j hj => ?_⟩
      rw [List.getElem_append_left (by omega)]
      exact h4 j hj
    · obtain rfl : q = out.length := by simp at hq; omega
      have hl := h.len
      refine ⟨k, by omega, by rw [List.length_append, hl]; simp, by rw [List.getElem_append_right (by omega)]; simp [hl], fun j hj => ?_⟩
      obtain ⟨_, h1, h2, _⟩ := h.img j hj
      rw [List.getElem_append_left h1]
      exact h2
theorem getD_at {now : List Nat} {j : Nat} (h : j < now.length) : now.getD j 0 = now[j] := by
  rw [List.getD_eq_getElem?_getD, List.getElem?_eq_getElem h]; rfl
/-- what leads on from a node that is shared lies ahead of it. -/
theorem ShI.ahead {ns out : List Nod} {now : List Nat} {m : Int} (h : ShI ns ns.length out now) (ok : ∀ i (h : i < ns.length), nodE m i ns[i] = 0) {i : Nat} (hi : i < ns.length) (e : ns[i].lf = false) :
    ∃ h1 : i < now.length, now.getD ns[i].ls.toNat 0 < now[i] ∧ now.getD ns[i].mr.toNat 0 < now[i] := by
  obtain ⟨h', h1, h2, h3⟩ := h.img i hi
  refine ⟨h1, ?_⟩
  obtain ⟨i0, a1, a2, a3, a4⟩ := h.fst _ h2
  obtain ⟨b', b1, b2, b3⟩ := h.img i0 a1
  simp only [a3] at b3
  have he : renN now ns[i0] = renN now ns[i] := by rw [← b3, h3]
  have e0 : ns[i0].lf = false := by rw [← renN_lf now, he, renN_lf]; exact e
  obtain ⟨_, c1, c2, c3, c4⟩ := nod_ask (ok i0 b') e0
  rw [renN_ask e, renN_ask e0] at he
  injection he with f1 f2 f3 f4 f5
  have hl := h.len
  rw [← show now.getD ns[i0].ls.toNat 0 = now.getD ns[i].ls.toNat 0 by omega, ← show now.getD ns[i0].mr.toNat 0 = now.getD ns[i].mr.toNat 0 by omega]
  rw [getD_at (by omega), getD_at (by omega)]
  exact ⟨a4 _ (by omega), a4 _ (by omega)⟩
theorem ShI.lp {ns out : List Nod} {now : List Nat} {m : Int} (h : ShI ns ns.length out now) (ok : ∀ i (h : i < ns.length), nodE m i ns[i] = 0) {t : Int} {i : Nat} {a : Int} {n : Nat} (hL : Lp ns t i a n) : Lp out t (now.getD i 0) a n := by
  induction hL with
  | leaf i hi e =>
    obtain ⟨h', h1, h2, h3⟩ := h.img i hi
    rw [getD_at h1]
    have := Lp.leaf (ns := out) (t := t) now[i] h2 (by rw [h3, renN_lf]; exact e)
    rw [h3, renN_an] at this
    exact this
  | less i k a n hi e c hk hl r ih =>
    obtain ⟨h', h1, h2, h3⟩ := h.img i hi
    obtain ⟨_, g1, g2⟩ := h.ahead ok hi e
    have hk' : ns[i].ls.toNat = k := by omega
    rw [hk'] at g1
    rw [getD_at h1]
    exact Lp.less _ (now.getD k 0) _ _ h2 (by rw [h3, renN_lf]; exact e) (by rw [h3, renN_bd]; exact c) (by rw [h3, renN_ask e]; dsimp only; rw [hk']) g1 ih
  | more i k a n hi e c hk hl r ih =>
    obtain ⟨h', h1, h2, h3⟩ := h.img i hi
    obtain ⟨_, g1, g2⟩ := h.ahead ok hi e
    have hk' : ns[i].mr.toNat = k := by omega
    rw [hk'] at g2
    rw [getD_at h1]
    exact Lp.more _ (now.getD k 0) _ _ h2 (by rw [h3, renN_lf]; exact e) (by rw [h3, renN_bd]; exact c) (by rw [h3, renN_ask e]; dsimp only; rw [hk']) g2 ih
theorem ShI.good {ns out : List Nod} {now : List Nat} {m : Int} (h : ShI ns ns.length out now) (ok : ∀ i (h : i < ns.length), nodE m i ns[i] = 0) : ∀ p (hp : p < out.length), nodE m p out[p] = 0 := by
  intro p hp
  obtain ⟨i, a1, a2, a3, a4⟩ := h.fst p hp
  obtain ⟨h', h1, h2, h3⟩ := h.img i a1
  simp only [a3] at h3
  rw [h3]
  cases e : ns[i].lf with
  | true =>
    rw [renN_leaf e]
    obtain ⟨c1, c2, c3, c4, c5⟩ := nod_leaf (ok i h') e
    unfold nodE
    rw [if_pos e, if_neg (by omega), if_neg (by simp [c3, c4, c5])]
  | false =>
    obtain ⟨_, g1, g2⟩ := h.ahead ok h' e
    have c0 := (nod_ask (ok i h') e).1
    rw [a3] at g1 g2
    rw [renN_ask e]
    unfold nodE
    dsimp only
    rw [if_neg (by rw [e]; simp), if_neg (by omega), if_neg (by omega)]
/-- bounds of a forest, each at one node alone. -/
def AskU (ns : List Nod) : Prop := ∀ i j (hi : i < ns.length) (hj : j < ns.length), ns[i].lf = false → ns[j].lf = false → ns[i].bd = ns[j].bd → i = j
def RootU (ns : List Nod) : Prop := ∃ h : ns.length - 1 < ns.length, ns.length = 1 ∨ ns[ns.length - 1].lf = false
theorem ShI.root {ns out : List Nod} {now : List Nat} {m : Int} (h : ShI ns ns.length out now) (ok : ∀ i (h : i < ns.length), nodE m i ns[i] = 0) (hu : AskU ns) (hr : RootU ns) : 0 < out.length ∧ now.getD (ns.length - 1) 0 = out.length - 1 := by
  obtain ⟨h0, hr⟩ := hr
  obtain ⟨h', h1, h2, h3⟩ := h.img _ h0
  refine ⟨by omega, ?_⟩
  rw [getD_at h1]
  have hfirst : ∀ j (hj : j < ns.length - 1), now[j]'(by omega) < now[ns.length - 1] := fun j hj => by
    obtain ⟨i0, a1, a2, a3, a4⟩ := h.fst _ h2
    obtain ⟨b', b1, b2, b3⟩ := h.img i0 a1
    simp only [a3] at b3
    have he : renN now ns[i0] = renN now ns[ns.length - 1] := by rw [← b3, h3]
    rcases hr with hr | hr
    · omega
    · have e0 : ns[i0].lf = false := by rw [← renN_lf now, he, renN_lf]; exact hr
      have hb : ns[i0].bd = ns[ns.length - 1].bd := by rw [← renN_bd now, he, renN_bd]
      have := hu i0 _ b' h0 e0 hr hb
      subst this
      exact a4 j hj
  have hall : ∀ p, p < out.length → p ≤ now[ns.length - 1] := fun p hp => by
    obtain ⟨i, a1, a2, a3, a4⟩ := h.fst p hp
    by_cases e : i = ns.length - 1
    · subst e; omega
    · have := hfirst i (by omega); omega
  have := hall (out.length - 1) (by omega)
  omega
end Go.Proofs.Ytlhidbbphngpcaa
