/-
  Code of a forest, plain: code whose stack is told for each place is verified; code that is laid out after a tree runs to the tree's answer.
-/
import Derived.Test.YtpnmaopompfalaaCodI
import Derived.Test.YtpnmaopompfalaaTreeE
namespace Go.Proofs.Ytpnmaopompfalaa
set_option linter.unusedVariables false
set_option linter.unusedSimpArgs false
open Go.ChangeShapes Go.WideShapes Go.ChangeAt Go.RowKit

def DlOk (D : Nat → Int) (dl : List Int) : Prop := ∀ j : Nat, gI dl j = 0 ∨ gI dl j = D j
theorem gI_setN (l : List Int) (t : Nat) (v : Int) (j : Nat) : gI (l.set t v) j = if t = j ∧ t < l.length then v else gI l j := by
  unfold gI
  rw [Int.toNat_natCast, getD_set_]
theorem vgo_typed {n a lg : Int} {D : Nat → Int} : ∀ (ts : List Int) (st : Vst), (∀ t ∈ ts, 0 ≤ t ∧ t < n ∧ D t.toNat = a + 1) → DlOk D st.dl → ∃ st', vgo n a lg st ts = .inr st' ∧ DlOk D st'.dl
  | [], st, _, h => ⟨st, rfl, h⟩
  | t :: ts, st, ht, h => by
    obtain ⟨h1, h2, h3⟩ := ht t List.mem_cons_self
    have hone : DlOk D (vone st a lg t).dl := fun j => by
      show gI (st.dl.set t.toNat (a + 1)) j = 0 ∨ gI (st.dl.set t.toNat (a + 1)) j = D j
      rw [gI_setN]
      split
      · rename_i hj
        right
        rw [← hj.1, h3]
      · exact h j
    obtain ⟨st', e1, e2⟩ := vgo_typed ts (vone st a lg t) (fun u hu => ht u (List.mem_cons_of_mem _ hu)) hone
    refine ⟨st', ?_, e2⟩
    have hg : gI st.dl t = 0 ∨ gI st.dl t = a + 1 := by
      have := h t.toNat
      rw [Int.toNat_of_nonneg h1] at this
      rw [← h3]
      exact this
    unfold vgo
    rw [if_neg (by omega), if_neg (by rcases hg with q | q <;> omega)]
    exact e1
theorem scan_typed (c : List Ins) (D : Nat → Int) (h0 : D 0 = 1) (hk : ∀ k (h : k < c.length), needI c[k].op ≤ D k - 1 ∧ D k - 1 + moreI c[k].op ≤ 8 ∧ ∀ t ∈ nextI k c[k], 0 ≤ t ∧ t < c.length ∧ D t.toNat = D k + moreI c[k].op) :
    ∀ k, k ≤ c.length → ∃ st, scan c k = .inr st ∧ DlOk D st.dl
  | 0, _ => by
    refine ⟨v0 c.length, rfl, fun j => ?_⟩
    show gI (1 :: List.replicate (c.length - 1) 0) j = 0 ∨ _
    unfold gI
    rw [Int.toNat_natCast]
    cases j with
    | zero => right; rw [h0]; rfl
    | succ j =>
      left
      rw [List.getD_cons_succ, List.getD_eq_getElem?_getD, List.getElem?_replicate]
      split <;> rfl
  | k + 1, h => by
    obtain ⟨st, e1, e2⟩ := scan_typed c D h0 hk k (by omega)
    have hkl : k < c.length := by omega
    obtain ⟨a1, a2, a3⟩ := hk k hkl
    by_cases hz : gI st.dl k = 0
    · refine ⟨st, scan_ok hkl e1 ?_, e2⟩
      unfold vstep
      rw [if_pos hz]
    · have hd : gI st.dl k = D k := (e2 k).resolve_left hz
      obtain ⟨st', g1, g2⟩ := vgo_typed (n := c.length) (a := gI st.dl k - 1 + moreI c[k].op) (lg := gI st.ll k) (D := D) (nextI k c[k]) ⟨st.dl, st.ll, mx st.stack (gI st.dl k - 1 + moreI c[k].op), mx st.steps (gI st.ll k)⟩ (fun t ht => by
        obtain ⟨b1, b2, b3⟩ := a3 t ht
        exact ⟨b1, b2, by rw [b3, hd]; omega⟩) e2
      refine ⟨st', scan_ok hkl e1 ?_, g2⟩
      unfold vstep
      rw [if_neg hz, if_neg (by rw [hd]; omega)]
      exact g1
/-- the code of a tree: node i's part begins at place S i. -/
def Lay (p : Prg) (ns : List Nod) (S : Nat → Nat) (A : Nat → Bool) : Prop := ∀ i (hi : i < ns.length), A i = true →
  (ns[i].lf = true → p.code[S i]? = some ⟨6, ns[i].an⟩) ∧
  (ns[i].lf = false → ∃ l m k d : Nat, ns[i].ls = l ∧ ns[i].mr = m ∧ A l = true ∧ A m = true ∧ p.pool[k]? = some ns[i].bd ∧ p.code[S i]? = some ⟨1, 0⟩ ∧ p.code[S i + 1]? = some ⟨2, k⟩ ∧ p.code[S i + 2]? = some ⟨3, 0⟩ ∧ p.code[S i + 3]? = some ⟨4, d⟩ ∧ S i + 3 + 1 + d = S m ∧ ((∃ d2 : Nat, p.code[S i + 4]? = some ⟨5, d2⟩ ∧ S i + 4 + 1 + d2 = S l) ∨ S l = S i + 4))
theorem at_code {p : Prg} {i : Nat} {x : Ins} (h : p.code[i]? = some x) : ∃ hi : i < p.code.length, p.code[i] = x := by
  obtain ⟨h1, h2⟩ := List.getElem?_eq_some_iff.1 h
  exact ⟨h1, h2⟩
theorem lay_run {p : Prg} {ns : List Nod} {S : Nat → Nat} {A : Nat → Bool} (hL : Lay p ns S A) {t : Int} {i : Nat} {a : Int} (h : Lf ns t i a) : A i = true → ∀ (n : Nat), a = n → n < p.answers.length → ∀ s : Int, 0 ≤ s → s ≤ S i → ∃ k, Rn p t (S i) [] s n k ∧ 0 ≤ k ∧ k ≤ p.code.length := by
  induction h with
  | leaf i hi e =>
    intro hA n hn hnl s h0 h1
    obtain ⟨hc, hx⟩ := at_code ((hL i hi hA).1 e)
    exact ⟨s + 1, .tell hc (by rw [hx]) (by rw [hx]; exact hn) hnl (by simp) ⟨h0, h1⟩, by omega, by omega⟩
  | less i k a hi e c hk hl r ih =>
    intro hA n hn hnl s h0 h1
    obtain ⟨l, m, kp, d, e1, e2, A1, A2, hp, q0, q1, q2, q3, hm, hless⟩ := (hL i hi hA).2 e
    obtain ⟨c0, x0⟩ := at_code q0
    obtain ⟨c1, x1⟩ := at_code q1
    obtain ⟨c2, x2⟩ := at_code q2
    obtain ⟨c3, x3⟩ := at_code q3
    obtain ⟨pk, px⟩ := List.getElem?_eq_some_iff.1 hp
    have hkl : k = l := by omega
    subst hkl
    have hcmp : (if t < p.pool[kp] then (1 : Int) else 0) = 1 := by rw [px, if_pos c]
    have fin : ∀ (s' : Int), s' ≤ S i + 5 → 0 ≤ s' → s' ≤ S k → (∀ (k' : Int), Rn p t (S k) [] s' n k' → True) → ∃ k', Rn p t (S k) [] s' n k' ∧ 0 ≤ k' ∧ k' ≤ p.code.length := fun s' _ g0 g1 _ => ih A1 n hn hnl s' g0 g1
    have main : ∃ k', Rn p t (S i + 3 + 1) [] (s + 1 + 1 + 1 + 1) n k' ∧ 0 ≤ k' ∧ k' ≤ p.code.length := by
      rcases hless with ⟨d2, q4, hd2⟩ | hd2
      · obtain ⟨c4, x4⟩ := at_code q4
        obtain ⟨k', r1, r2, r3⟩ := ih A1 n hn hnl (s + 1 + 1 + 1 + 1 + 1) (by omega) (by omega)
        refine ⟨k', .go (m := d2) c4 (by show p.code[S i + 4].op = 5; rw [x4]) (by show p.code[S i + 4].n = d2; rw [x4]) (by simp) ⟨by omega, by omega⟩ ?_, r2, r3⟩
        rw [show S i + 3 + 1 + 1 + d2 = S k by omega]
        exact r1
      · obtain ⟨k', r1, r2, r3⟩ := ih A1 n hn hnl (s + 1 + 1 + 1 + 1) (by omega) (by omega)
        refine ⟨k', ?_, r2, r3⟩
        rw [show S i + 3 + 1 = S k by omega]
        exact r1
    obtain ⟨k', r1, r2, r3⟩ := main
    refine ⟨k', .arg c0 (by rw [x0]) (by simp) ⟨h0, h1⟩ (.push (m := kp) c1 (by rw [x1]) (by rw [x1]) pk (by simp) ⟨by omega, by omega⟩ ?_), r2, r3⟩
    refine .less (l := []) (x := t) (y := p.pool[kp]) c2 (by rw [x2]) (by simp) ⟨by omega, by omega⟩ ?_
    rw [hcmp]
    refine .skip (l := []) (v := 1) (m := d) c3 (by rw [x3]) (by rw [x3]) (by simp) ⟨by omega, by omega⟩ ?_
    rw [if_neg (by decide)]
    exact r1
  | more i k a hi e c hk hl r ih =>
    intro hA n hn hnl s h0 h1
    obtain ⟨l, m, kp, d, e1, e2, A1, A2, hp, q0, q1, q2, q3, hm, hless⟩ := (hL i hi hA).2 e
    obtain ⟨c0, x0⟩ := at_code q0
    obtain ⟨c1, x1⟩ := at_code q1
    obtain ⟨c2, x2⟩ := at_code q2
    obtain ⟨c3, x3⟩ := at_code q3
    obtain ⟨pk, px⟩ := List.getElem?_eq_some_iff.1 hp
    have hkm : k = m := by omega
    subst hkm
    have hcmp : (if t < p.pool[kp] then (1 : Int) else 0) = 0 := by rw [px, if_neg (by omega)]
    obtain ⟨k', r1, r2, r3⟩ := ih A2 n hn hnl (s + 1 + 1 + 1 + 1) (by omega) (by omega)
    refine ⟨k', .arg c0 (by rw [x0]) (by simp) ⟨h0, h1⟩ (.push (m := kp) c1 (by rw [x1]) (by rw [x1]) pk (by simp) ⟨by omega, by omega⟩ ?_), r2, r3⟩
    refine .less (l := []) (x := t) (y := p.pool[kp]) c2 (by rw [x2]) (by simp) ⟨by omega, by omega⟩ ?_
    rw [hcmp]
    refine .skip (l := []) (v := 0) (m := d) c3 (by rw [x3]) (by rw [x3]) (by simp) ⟨by omega, by omega⟩ ?_
    rw [if_pos rfl, show S i + 1 + 1 + 1 + 1 + d = S k by omega]
    exact r1
end Go.Proofs.Ytpnmaopompfalaa
