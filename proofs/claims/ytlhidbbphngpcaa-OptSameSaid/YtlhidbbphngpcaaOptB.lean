/-
  tree.balanced, plain: a balanced tree of pieces.
-/
import Derived.Test.YtlhidbbphngpcaaOptA
namespace Go.Proofs.Ytlhidbbphngpcaa
set_option linter.unusedVariables false
set_option linter.unusedSimpArgs false
open Go.ChangeShapes Go.WideShapes Go.ChangeAt Go.RowKit

def frAt (l : List Pc) (k : Nat) : Int := match l[k]? with | some p => p.fr | none => 0
def anAt (l : List Pc) (k : Nat) : Int := match l[k]? with | some p => p.an | none => 0
theorem frAt_eq {l : List Pc} {k : Nat} (h : k < l.length) : frAt l k = l[k].fr := by unfold frAt; rw [List.getElem?_eq_getElem h]
theorem anAt_eq {l : List Pc} {k : Nat} (h : k < l.length) : anAt l k = l[k].an := by unfold anAt; rw [List.getElem?_eq_getElem h]
/-- the balanced tree of l behind b nodes. -/
def balF : Nat → List Pc → Nat → List Nod
  | 0, _, _ => []
  | F + 1, l, b =>
    if l.length ≤ 1 then [leafN (anAt l 0)]
    else balF F (l.take (l.length / 2)) b ++ balF F (l.drop (l.length / 2)) (b + (2 * (l.length / 2) - 1)) ++
      [askN (frAt l (l.length / 2)) ((b + (2 * (l.length / 2) - 1) - 1 : Nat) : Int) ((b + (2 * l.length - 2) - 1 : Nat) : Int)]
theorem balF_one {F : Nat} {l : List Pc} {b : Nat} (h : l.length ≤ 1) : balF (F + 1) l b = [leafN (anAt l 0)] := by
  show (if _ then _ else _) = _
  rw [if_pos h]
theorem balF_two {F : Nat} {l : List Pc} {b : Nat} (h : ¬ l.length ≤ 1) : balF (F + 1) l b = balF F (l.take (l.length / 2)) b ++ balF F (l.drop (l.length / 2)) (b + (2 * (l.length / 2) - 1)) ++
      [askN (frAt l (l.length / 2)) ((b + (2 * (l.length / 2) - 1) - 1 : Nat) : Int) ((b + (2 * l.length - 2) - 1 : Nat) : Int)] := by
  show (if _ then _ else _) = _
  rw [if_neg h]
theorem balF_len : ∀ (F : Nat) (l : List Pc) (b : Nat), 0 < l.length → l.length ≤ F → (balF F l b).length = 2 * l.length - 1
  | 0, l, b, h0, h => by omega
  | F + 1, l, b, h0, h => by
    by_cases h1 : l.length ≤ 1
    · rw [balF_one h1]; simp; omega
    · rw [balF_two h1, List.length_append, List.length_append, balF_len F _ _ (by rw [List.length_take]; omega) (by rw [List.length_take]; omega), balF_len F _ _ (by rw [List.length_drop]; omega) (by rw [List.length_drop]; omega), List.length_take, List.length_drop]
      simp
      omega
theorem Lp.append {ns : List Nod} (ms : List Nod) {t : Int} {i : Nat} {a : Int} {n : Nat} (h : Lp ns t i a n) : Lp (ns ++ ms) t i a n := by
  induction h with
  | leaf i h e =>
    have e1 : (ns ++ ms)[i]'(by rw [List.length_append]; omega) = ns[i] := List.getElem_append_left h
    have := Lp.leaf (ns := ns ++ ms) (t := t) i (by rw [List.length_append]; omega) (by rw [e1]; exact e)
    rw [e1] at this
    exact this
  | less i k a n h e c hk hl r ih =>
    have e1 : (ns ++ ms)[i]'(by rw [List.length_append]; omega) = ns[i] := List.getElem_append_left h
    exact Lp.less i k a n (by rw [List.length_append]; omega) (by rw [e1]; exact e) (by rw [e1]; exact c) (by rw [e1]; exact hk) hl ih
  | more i k a n h e c hk hl r ih =>
    have e1 : (ns ++ ms)[i]'(by rw [List.length_append]; omega) = ns[i] := List.getElem_append_left h
    exact Lp.more i k a n (by rw [List.length_append]; omega) (by rw [e1]; exact e) (by rw [e1]; exact c) (by rw [e1]; exact hk) hl ih
theorem last_at (A : List Nod) (x : Nod) : ∃ h : A.length < (A ++ [x]).length, (A ++ [x])[A.length] = x := ⟨by simp, by simp⟩
/-- which piece a balanced tree tells, and how many nodes are asked. -/
theorem bal_lp (t : Int) : ∀ (F : Nat) (l : List Pc) (pre : List Nod) (i m : Nat) (h : i < l.length), l.length ≤ F → l.length ≤ 2 ^ m → AtPc l t i →
    ∃ n, n ≤ m + 1 ∧ Lp (pre ++ balF F l pre.length) t (pre.length + (2 * l.length - 1) - 1) l[i].an n
  | 0, l, pre, i, m, h, hF, _, _ => by omega
  | F + 1, l, pre, i, m, h, hF, hm, hat => by
    by_cases h1 : l.length ≤ 1
    · obtain rfl : i = 0 := by omega
      rw [balF_one h1]
      obtain ⟨hl, hx⟩ := last_at pre (leafN (anAt l 0))
      refine ⟨1, by omega, ?_⟩
      have := Lp.leaf (ns := pre ++ [leafN (anAt l 0)]) (t := t) pre.length hl (by rw [hx]; rfl)
      rw [hx] at this
      rw [show pre.length + (2 * l.length - 1) - 1 = pre.length by omega, ← anAt_eq (by omega)]
      exact this
    · obtain ⟨m, rfl⟩ : ∃ q, m = q + 1 := by
        cases m with
        | zero => simp at hm; omega
        | succ q => exact ⟨q, rfl⟩
      have hp : 2 ^ (m + 1) = 2 * 2 ^ m := by rw [Nat.pow_succ]; omega
      obtain ⟨a1, a2⟩ := hat
      rw [balF_two h1]
      obtain ⟨k, hk⟩ : ∃ k, k = l.length / 2 := ⟨_, rfl⟩
      rw [← hk]
      have hk1 : 1 ≤ k := by omega
      have hk2 : k < l.length := by omega
      have htl : (l.take k).length = k := by rw [List.length_take]; omega
      have hdl : (l.drop k).length = l.length - k := by rw [List.length_drop]
      have hAl : (balF F (l.take k) pre.length).length = 2 * k - 1 := by rw [balF_len F _ _ (by omega) (by omega), htl]
      have hBl : (balF F (l.drop k) (pre.length + (2 * k - 1))).length = 2 * (l.length - k) - 1 := by rw [balF_len F _ _ (by omega) (by omega), hdl]
      generalize hA : balF F (l.take k) pre.length = A at *
      generalize hB : balF F (l.drop k) (pre.length + (2 * k - 1)) = B at *
      obtain ⟨hl, hx⟩ := last_at (pre ++ (A ++ B)) (askN (frAt l k) ((pre.length + (2 * k - 1) - 1 : Nat) : Int) ((pre.length + (2 * l.length - 2) - 1 : Nat) : Int))
      have hpl : (pre ++ (A ++ B)).length = pre.length + (2 * l.length - 1) - 1 := by rw [List.length_append, List.length_append, hAl, hBl]; omega
      rw [show pre ++ (A ++ B ++ [askN (frAt l k) ((pre.length + (2 * k - 1) - 1 : Nat) : Int) ((pre.length + (2 * l.length - 2) - 1 : Nat) : Int)]) = pre ++ (A ++ B) ++ [askN (frAt l k) ((pre.length + (2 * k - 1) - 1 : Nat) : Int) ((pre.length + (2 * l.length - 2) - 1 : Nat) : Int)] by simp only [List.append_assoc]]
      rw [← hpl]
      by_cases hik : i < k
      · obtain ⟨n, hn, hL⟩ := bal_lp t F (l.take k) pre i m (by omega) (by omega) (by omega) ⟨fun j hj hij => by
          rw [List.getElem_take]; exact a1 j (by omega) hij, fun j hj u v => by rw [List.getElem_take]; exact a2 j (by omega) u v⟩
        rw [hA] at hL; simp only [List.getElem_take, htl] at hL
        refine ⟨n + 1, by omega, Lp.less _ (pre.length + (2 * k - 1) - 1) _ n hl (by rw [hx]; rfl) (by rw [hx]; show t < frAt l k; rw [frAt_eq hk2]; exact a1 k hk2 hik) (by rw [hx]; rfl) (by omega) ?_⟩
        have := (hL.append B).append [askN (frAt l k) ((pre.length + (2 * k - 1) - 1 : Nat) : Int) ((pre.length + (2 * l.length - 2) - 1 : Nat) : Int)]
        rwa [List.append_assoc pre A B] at this
      · obtain ⟨n, hn, hL⟩ := bal_lp t F (l.drop k) (pre ++ A) (i - k) m (by omega) (by omega) (by omega) ⟨fun j hj hij => by
          rw [List.getElem_drop]; exact a1 (k + j) (by omega) (by omega), fun j hj u v => by rw [List.getElem_drop]; exact a2 (k + j) (by omega) (by omega) (by omega)⟩
        rw [List.length_append, hAl, hB] at hL; simp only [List.getElem_drop, hdl] at hL
        have hik' : k + (i - k) = i := by omega
        simp only [hik'] at hL
        refine ⟨n + 1, by omega, Lp.more _ (pre.length + (2 * l.length - 2) - 1) _ n hl (by rw [hx]; rfl) (by rw [hx]; show frAt l k ≤ t; rw [frAt_eq hk2]; exact a2 k hk2 hk1 (by omega)) (by rw [hx]; rfl) (by omega) ?_⟩
        rw [show pre.length + (2 * k - 1) + (2 * (l.length - k) - 1) - 1 = pre.length + (2 * l.length - 2) - 1 by omega] at hL
        have := hL.append [askN (frAt l k) ((pre.length + (2 * k - 1) - 1 : Nat) : Int) ((pre.length + (2 * l.length - 2) - 1 : Nat) : Int)]
        rwa [List.append_assoc pre A B] at this
theorem good_app {c : Int} {A B : List Nod} {x : Nod} {b : Nat} (gA : ∀ i (hi : i < A.length), nodE c ((b + i : Nat) : Int) A[i] = 0) (gB : ∀ i (hi : i < B.length), nodE c ((b + A.length + i : Nat) : Int) B[i] = 0) (gx : nodE c ((b + A.length + B.length : Nat) : Int) x = 0) :
    ∀ i (hi : i < (A ++ B ++ [x]).length), nodE c ((b + i : Nat) : Int) (A ++ B ++ [x])[i] = 0 := by
  intro i hi
  by_cases i1 : i < A.length
  · rw [List.getElem_append_left (by rw [List.length_append]; omega), List.getElem_append_left i1]
    exact gA i i1
  · by_cases i2 : i < A.length + B.length
    · rw [List.getElem_append_left (by rw [List.length_append]; omega), List.getElem_append_right (by omega)]
      have := gB (i - A.length) (by omega)
      rw [show b + A.length + (i - A.length) = b + i by omega] at this
      exact this
    · have hi3 : i = A.length + B.length := by simp at hi; omega
      subst hi3
      rw [List.getElem_append_right (by rw [List.length_append]; omega)]
      simp only [List.length_append, Nat.sub_self, List.getElem_cons_zero]
      rw [← Nat.add_assoc]
      exact gx
theorem bal_good (c : Int) : ∀ (F : Nat) (l : List Pc) (b : Nat), 0 < l.length → l.length ≤ F → (∀ p ∈ l, 0 ≤ p.an ∧ p.an < c) → ∀ i (hi : i < (balF F l b).length), nodE c ((b + i : Nat) : Int) (balF F l b)[i] = 0
  | 0, l, b, h0, h, _ => by omega
  | F + 1, l, b, h0, h, hp => by
    by_cases h1 : l.length ≤ 1
    · rw [balF_one h1]
      intro i hi
      obtain rfl : i = 0 := by simpa using hi
      have := hp l[0] (List.getElem_mem h0)
      rw [← anAt_eq] at this
      show nodE c _ (leafN (anAt l 0)) = 0
      unfold nodE leafN
      rw [if_pos rfl, if_neg (by dsimp only; omega), if_neg (by simp)]
    · rw [balF_two h1]
      obtain ⟨k, hk⟩ : ∃ k, k = l.length / 2 := ⟨_, rfl⟩
      rw [← hk]
      have htl : (l.take k).length = k := by rw [List.length_take]; omega
      have hdl : (l.drop k).length = l.length - k := by rw [List.length_drop]
      have hAl : (balF F (l.take k) b).length = 2 * k - 1 := by rw [balF_len F _ _ (by omega) (by omega), htl]
      have hBl : (balF F (l.drop k) (b + (2 * k - 1))).length = 2 * (l.length - k) - 1 := by rw [balF_len F _ _ (by omega) (by omega), hdl]
      have gA := bal_good c F (l.take k) b (by omega) (by omega) (fun p h => hp p (List.mem_of_mem_take h))
      have gB := bal_good c F (l.drop k) (b + (2 * k - 1)) (by omega) (by omega) (fun p h => hp p (List.mem_of_mem_drop h))
      refine good_app gA (by rw [hAl]; exact gB) ?_
      rw [hAl, hBl]
      unfold nodE askN
      rw [if_neg (by simp), if_neg (by simp), if_neg (by dsimp only; omega)]
end Go.Proofs.Ytlhidbbphngpcaa
