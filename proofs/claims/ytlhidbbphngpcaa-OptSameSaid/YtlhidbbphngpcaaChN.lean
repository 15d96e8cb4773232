/-
  A chain of pieces as nodes: the plain part.
-/
import Derived.Test.YtlhidbbphngpcaaTreeL
namespace Go.Proofs.Ytlhidbbphngpcaa
set_option linter.unusedVariables false
set_option linter.unusedSimpArgs false
open Go.ChangeShapes Go.WideShapes Go.ChangeAt Go.RowKit

structure Pc where
  fr : Int
  an : Int
def leafN (a : Int) : Nod := ⟨true, a, 0, 0, 0⟩
def askN (b l m : Int) : Nod := ⟨false, 0, b, l, m⟩
def chN : List Pc → List Nod
  | [] => []
  | [p] => [leafN p.an]
  | p :: q :: r => chN (q :: r) ++ [leafN p.an, askN q.fr (chN (q :: r)).length ((chN (q :: r)).length - 1 : Nat)]
theorem chN_cons (p q : Pc) (r : List Pc) : chN (p :: q :: r) = chN (q :: r) ++ [leafN p.an, askN q.fr (chN (q :: r)).length ((chN (q :: r)).length - 1 : Nat)] := rfl
theorem chN_len : ∀ (p : Pc) (r : List Pc), (chN (p :: r)).length = 2 * r.length + 1
  | p, [] => rfl
  | p, q :: r => by rw [chN_cons, List.length_append, chN_len q r]; simp; omega
theorem Lf.append {ns : List Nod} (ms : List Nod) {t : Int} {i : Nat} {a : Int} (h : Lf ns t i a) : Lf (ns ++ ms) t i a := by
  induction h with
  | leaf i h e =>
    have e1 : (ns ++ ms)[i]'(by rw [List.length_append]; omega) = ns[i] := List.getElem_append_left h
    have := Lf.leaf (ns := ns ++ ms) (t := t) i (by rw [List.length_append]; omega) (by rw [e1]; exact e)
    rw [e1] at this
    exact this
  | less i k a h e c hk hl r ih =>
    have e1 : (ns ++ ms)[i]'(by rw [List.length_append]; omega) = ns[i] := List.getElem_append_left h
    exact Lf.less i k a (by rw [List.length_append]; omega) (by rw [e1]; exact e) (by rw [e1]; exact c) (by rw [e1]; exact hk) hl ih
  | more i k a h e c hk hl r ih =>
    have e1 : (ns ++ ms)[i]'(by rw [List.length_append]; omega) = ns[i] := List.getElem_append_left h
    exact Lf.more i k a (by rw [List.length_append]; omega) (by rw [e1]; exact e) (by rw [e1]; exact c) (by rw [e1]; exact hk) hl ih
theorem chN_last (p q : Pc) (r : List Pc) : ∃ h : 2 * r.length + 2 < (chN (p :: q :: r)).length, (chN (p :: q :: r))[2 * r.length + 2] = askN q.fr (2 * r.length + 1 : Nat) (2 * r.length : Nat) := by
  refine ⟨by rw [chN_len, List.length_cons]; omega, ?_⟩
  have hl := chN_len q r
  simp only [chN_cons]
  rw [List.getElem_append_right (by rw [hl]; omega)]
  simp only [hl, show 2 * r.length + 2 - (2 * r.length + 1) = 1 from by omega]
  rfl
theorem chN_prev (p q : Pc) (r : List Pc) : ∃ h : 2 * r.length + 1 < (chN (p :: q :: r)).length, (chN (p :: q :: r))[2 * r.length + 1] = leafN p.an := by
  refine ⟨by rw [chN_len, List.length_cons]; omega, ?_⟩
  have hl := chN_len q r
  simp only [chN_cons]
  rw [List.getElem_append_right (by rw [hl]; omega)]
  simp only [hl, Nat.sub_self]
  rfl
/-- which piece a chain tells. -/
theorem chain_lf (t : Int) : ∀ (ps : List Pc) (i : Nat) (h : i < ps.length), (∀ j (hj : j < ps.length), i < j → t < ps[j].fr) → (∀ j (hj : j < ps.length), 1 ≤ j → j ≤ i → ps[j].fr ≤ t) → Lf (chN ps) t ((chN ps).length - 1) ps[i].an
  | [], i, h, _, _ => by simp at h
  | [p], i, h, _, _ => by
    obtain rfl : i = 0 := by simpa using h
    exact Lf.leaf (ns := chN [p]) 0 (by simp [chN]) rfl
  | p :: q :: r, i, h, h1, h2 => by
    obtain ⟨hl, el⟩ := chN_last p q r
    obtain ⟨hp, ep⟩ := chN_prev p q r
    have hlen := chN_len p (q :: r)
    rw [show (chN (p :: q :: r)).length - 1 = 2 * r.length + 2 from by rw [hlen, List.length_cons]; omega]
    match i, h, h1, h2 with
    | 0, h, h1, h2 =>
      have hq := h1 1 (by simp) (by omega)
      refine Lf.less _ (2 * r.length + 1) _ hl (by rw [el]; rfl) (by rw [el]; exact hq) (by rw [el]; rfl) (by omega) ?_
      have := Lf.leaf (ns := chN (p :: q :: r)) (t := t) (2 * r.length + 1) hp (by rw [ep]; rfl)
      rw [ep] at this
      exact this
    | i + 1, h, h1, h2 =>
      have hq := h2 1 (by simp) (by omega) (by omega)
      have ih := chain_lf t (q :: r) i (by simpa using h) (fun j hj hij => h1 (j + 1) (by simpa using hj) (by omega)) (fun j hj a b => h2 (j + 1) (by simpa using hj) (by omega) (by omega))
      rw [show (chN (q :: r)).length - 1 = 2 * r.length from by rw [chN_len]; omega] at ih
      refine Lf.more _ (2 * r.length) _ hl (by rw [el]; rfl) (by rw [el]; exact hq) (by rw [el]; rfl) (by omega) ?_
      rw [chN_cons]
      exact ih.append _
theorem chN_good (m : Int) : ∀ (ps : List Pc), (∀ p ∈ ps, 0 ≤ p.an ∧ p.an < m) → ∀ i (hi : i < (chN ps).length), nodE m (i : Nat) (chN ps)[i] = 0
  | [], _, i, hi => by simp [chN] at hi
  | [p], h, i, hi => by
    obtain rfl : i = 0 := by simpa [chN] using hi
    have := h p (by simp)
    show nodE m _ (leafN p.an) = 0
    unfold nodE leafN
    rw [if_pos rfl, if_neg (by dsimp only; omega), if_neg (by simp)]
  | p :: q :: r, h, i, hi => by
    have hl := chN_len q r
    have hL := chN_len p (q :: r)
    by_cases h1 : i < (chN (q :: r)).length
    · have ih := chN_good m (q :: r) (fun x hx => h x (by simp [List.mem_cons] at hx ⊢; right; exact hx)) i h1
      have e : (chN (p :: q :: r))[i] = (chN (q :: r))[i] := by simp only [chN_cons]; exact List.getElem_append_left h1
      rw [e]; exact ih
    · by_cases h2 : i = 2 * r.length + 1
      · subst h2
        obtain ⟨hp, ep⟩ := chN_prev p q r
        have := h p (by simp)
        rw [ep]
        unfold nodE leafN
        rw [if_pos rfl, if_neg (by dsimp only; omega), if_neg (by simp)]
      · have h3 : i = 2 * r.length + 2 := by rw [hL] at hi; rw [hl] at h1; simp at hi; omega
        subst h3
        obtain ⟨hp, ep⟩ := chN_last p q r
        rw [ep]
        unfold nodE askN
        rw [if_neg (by simp), if_neg (by simp), if_neg (by dsimp only; omega)]
end Go.Proofs.Ytlhidbbphngpcaa
