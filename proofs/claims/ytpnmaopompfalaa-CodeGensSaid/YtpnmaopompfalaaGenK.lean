/-
  Code of a forest, plain: the bounds of what Gen computes.
-/
import Derived.Test.YtpnmaopompfalaaGenE
import Derived.Test.YtpnmaopompfalaaGenG
import Derived.Test.YtpnmaopompfalaaGenJ
namespace Go.Proofs.Ytpnmaopompfalaa
set_option linter.unusedVariables false
set_option linter.unusedSimpArgs false
open Go.ChangeShapes Go.WideShapes Go.ChangeAt Go.RowKit

/-- what holds of Gen's state when the nodes below k are to come. -/
def GOk (ns : List Nod) (k : Nat) (g : Gs) : Prop :=
  (∀ x ∈ g.code, I64 x.op ∧ I64 x.n) ∧ (∀ b ∈ g.pool, I64 b) ∧ (∀ s ∈ g.start, 0 ≤ s ∧ s ≤ 40000) ∧ (∀ h ∈ g.holes, h.2 < ns.length) ∧ g.start.length = ns.length ∧ HOk g ∧ g.code.length + 5 * k ≤ 5 * ns.length ∧ g.pool.length + k ≤ ns.length ∧ g.holes.length + 2 * k ≤ 2 * ns.length
theorem I64c {n : Int} (h : 0 ≤ n ∧ n ≤ 100000) : I64 n := i64_of (by omega) (by omega)
theorem poolK_le (pool : List Int) (b : Int) : poolK pool b ≤ pool.length := by
  unfold poolK
  split
  · exact Nat.le_of_lt (List.idxOf_lt_length_of_mem (by assumption))
  · exact Nat.le_refl _
theorem poolP_ok {pool : List Int} {b : Int} (h : ∀ c ∈ pool, I64 c) (hb : I64 b) : (∀ c ∈ poolP pool b, I64 c) ∧ (poolP pool b).length ≤ pool.length + 1 := by
  unfold poolP
  split
  · exact ⟨h, by omega⟩
  · refine ⟨fun c hc => ?_, by simp⟩
    rcases List.mem_append.1 hc with q | q
    · exact h c q
    · rw [List.mem_singleton.1 q]; exact hb
theorem GOk.step {ns : List Nod} {ak : List Bool} {i : Nat} {g : Gs} (h : GOk ns (i + 1) g) (hi : i < ns.length) (hn : ns.length ≤ 8000) (h64 : ∀ x ∈ ns, I64 x.an ∧ I64 x.bd ∧ I64 x.ls ∧ I64 x.mr) (hc : Chl ns) : GOk ns i (gStep ns ak i g) := by
  have hok := step_hok (ns := ns) (ak := ak) (i := i) h.2.2.2.2.2.1
  obtain ⟨h1, h2, h3, h4, h5, h6, h7, h8, h9⟩ := h
  have hst : ∀ s ∈ g.start.set i g.code.length, 0 ≤ s ∧ s ≤ 40000 := fun s hs => by
    rcases List.mem_or_eq_of_mem_set hs with q | q
    · exact h3 s q
    · subst q; omega
  have hsl : (g.start.set i (g.code.length : Int)).length = ns.length := by rw [List.length_set]; exact h5
  unfold gStep at hok ⊢
  split at hok
  · rename_i ha
    rw [if_pos ha]
    rw [List.getElem?_eq_getElem hi] at hok ⊢
    dsimp only at hok ⊢
    obtain ⟨m1, m2, m3, m4⟩ := h64 ns[i] (List.getElem_mem hi)
    by_cases hl : ns[i].lf = true
    · rw [if_pos hl] at hok ⊢
      refine ⟨fun x hx => ?_, h2, hst, h4, hsl, hok, ?_, ?_, ?_⟩
      · rcases List.mem_append.1 hx with q | q
        · exact h1 x q
        · rw [List.mem_singleton.1 q]; exact ⟨show I64 6 from I64c (by decide), m1⟩
      · rw [List.length_append, List.length_singleton]; omega
      · show g.pool.length + i ≤ _; omega
      · show g.holes.length + 2 * i ≤ _; omega
    · rw [if_neg hl] at hok ⊢
      obtain ⟨c1, c2, c3, c4⟩ := hc i hi (by simpa using hl)
      obtain ⟨p1, p2⟩ := poolP_ok h2 m2
      have hpk := poolK_le g.pool ns[i].bd
      have hk : I64 ((poolK g.pool ns[i].bd : Nat) : Int) := I64c (by omega)
      unfold gAsk at hok ⊢
      split at hok
      · rename_i hf
        rw [if_pos hf]
        refine ⟨fun x hx => ?_, p1, hst, fun x hx => ?_, hsl, hok, ?_, ?_, ?_⟩
        · rcases List.mem_append.1 hx with q | q
          · exact h1 x q
          · simp at q
            rcases q with rfl | rfl | rfl | rfl | rfl <;> exact ⟨I64c (by dsimp only; omega), by first | exact hk | exact i64_zero⟩
        · rcases List.mem_append.1 hx with q | q
          · exact h4 x q
          · simp at q
            rcases q with rfl | rfl <;> (dsimp only; omega)
        · rw [List.length_append]; simp only [List.length_cons, List.length_nil]; omega
        · show (poolP g.pool ns[i].bd).length + i ≤ _; omega
        · rw [List.length_append]; simp only [List.length_cons, List.length_nil]; omega
      · rename_i hf
        rw [if_neg hf]
        refine ⟨fun x hx => ?_, p1, hst, fun x hx => ?_, hsl, hok, ?_, ?_, ?_⟩
        · rcases List.mem_append.1 hx with q | q
          · exact h1 x q
          · simp at q
            rcases q with rfl | rfl | rfl | rfl <;> exact ⟨I64c (by dsimp only; omega), by first | exact hk | exact i64_zero⟩
        · rcases List.mem_append.1 hx with q | q
          · exact h4 x q
          · simp at q
            subst q
            dsimp only; omega
        · rw [List.length_append]; simp only [List.length_cons, List.length_nil]; omega
        · show (poolP g.pool ns[i].bd).length + i ≤ _; omega
        · rw [List.length_append]; simp only [List.length_cons, List.length_nil]; omega
  · rename_i ha
    rw [if_neg ha]
    exact ⟨h1, h2, h3, h4, h5, h6, by omega, by omega, by omega⟩
theorem GOk.start (ns : List Nod) : GOk ns ns.length (gen0 ns.length) := by
  refine ⟨fun x hx => by simp [gen0] at hx, fun x hx => by simp [gen0] at hx, fun s hs => ?_, fun x hx => by simp [gen0] at hx, by simp [gen0], ⟨List.Pairwise.nil, fun x hx => by simp [gen0] at hx⟩, by simp [gen0], by simp [gen0], by simp [gen0]⟩
  simp [gen0] at hs
  omega
theorem flat_setX : ∀ (c : List Ins) (i : Nat) (v : Int), i < c.length → (c.flatMap gX).set (i * 2 + 1) (.int .i64 v) = (c.set i ⟨(c.getD i ⟨0, 0⟩).op, v⟩).flatMap gX
  | x :: c, 0, v, _ => rfl
  | x :: c, i + 1, v, h => by
    have ih := flat_setX c i v (by simpa using h)
    have e : (i + 1) * 2 + 1 = (i * 2 + 1) + 1 + 1 := by omega
    show ((Value.int .i64 x.op) :: (Value.int .i64 x.n) :: c.flatMap gX).set ((i + 1) * 2 + 1) (.int .i64 v) = (Value.int .i64 x.op) :: (Value.int .i64 x.n) :: (c.set i ⟨(c.getD i ⟨0, 0⟩).op, v⟩).flatMap gX
    rw [e, List.set_cons_succ, List.set_cons_succ, ih]
theorem patch1_len (st : List Int) (c : List Ins) (h : Nat × Nat) : (patch1 st c h).length = c.length := by unfold patch1; rw [List.length_set]
theorem start_at {st : List Int} (h : ∀ s ∈ st, 0 ≤ s ∧ s ≤ 40000) (j : Nat) : 0 ≤ st.getD j 0 ∧ st.getD j 0 ≤ 40000 := by
  rw [List.getD_eq_getElem?_getD]
  rcases Nat.lt_or_ge j st.length with q | q
  · rw [List.getElem?_eq_getElem q]; exact h _ (List.getElem_mem q)
  · rw [List.getElem?_eq_none q]; exact ⟨by decide, by decide⟩
theorem patch1_ok {st : List Int} {c : List Ins} {h : Nat × Nat} (hs : ∀ s ∈ st, 0 ≤ s ∧ s ≤ 40000) (hc : ∀ x ∈ c, I64 x.op ∧ I64 x.n) (hl : c.length ≤ 100000) (hh : h.1 < c.length) : ∀ x ∈ patch1 st c h, I64 x.op ∧ I64 x.n := by
  intro x hx
  unfold patch1 at hx
  rcases List.mem_or_eq_of_mem_set hx with q | q
  · exact hc x q
  · subst q
    have := start_at hs h.2
    refine ⟨?_, i64_of (by dsimp only; omega) (by dsimp only; omega)⟩
    rw [List.getD_eq_getElem?_getD, List.getElem?_eq_getElem hh]
    exact (hc _ (List.getElem_mem hh)).1
theorem patch_ok {st : List Int} (hs : ∀ s ∈ st, 0 ≤ s ∧ s ≤ 40000) : ∀ (hl : List (Nat × Nat)) (c : List Ins), (∀ x ∈ c, I64 x.op ∧ I64 x.n) → c.length ≤ 100000 → (∀ h ∈ hl, h.1 < c.length) → ∀ x ∈ patch st c hl, I64 x.op ∧ I64 x.n
  | [], c, hc, _, _ => hc
  | h :: hl, c, hc, hn, hh => patch_ok hs hl (patch1 st c h) (patch1_ok hs hc hn (hh h List.mem_cons_self)) (by rw [patch1_len]; exact hn) (fun a ha => by rw [patch1_len]; exact hh a (List.mem_cons_of_mem _ ha))
theorem patch_take {st : List Int} {c : List Ins} {hl : List (Nat × Nat)} {k : Nat} (hk : k < hl.length) : patch st c (hl.take (k + 1)) = patch1 st (patch st c (hl.take k)) hl[k] := by
  rw [List.take_add_one, List.getElem?_eq_getElem hk]
  unfold patch
  rw [List.foldl_append]
  rfl
end Go.Proofs.Ytpnmaopompfalaa
