/-
  Which answer a forest tells: the relation, that it holds of one answer, valueOf.
-/
import Derived.Test.YtlhidbbphngpcaaLem
import Derived.Test.YtlhidbbphngpcaaTreeB
namespace Go.Proofs.Ytlhidbbphngpcaa
set_option linter.unusedVariables false
set_option linter.unusedSimpArgs false
open Go.ChangeShapes Go.WideShapes Go.ChangeAt Go.RowKit

/-- from node i on, the number t comes to the leaf that bears the answer a. -/
inductive Lf (ns : List Nod) (t : Int) : Nat → Int → Prop
  | leaf (i : Nat) (h : i < ns.length) (e : ns[i].lf = true) : Lf ns t i ns[i].an
  | less (i k : Nat) (a : Int) (h : i < ns.length) (e : ns[i].lf = false) (c : t < ns[i].bd) (hk : ns[i].ls = k) (hl : k < i) (r : Lf ns t k a) : Lf ns t i a
  | more (i k : Nat) (a : Int) (h : i < ns.length) (e : ns[i].lf = false) (c : ns[i].bd ≤ t) (hk : ns[i].mr = k) (hl : k < i) (r : Lf ns t k a) : Lf ns t i a
theorem lf_ex (ns : List Nod) (m t : Int) (ok : ∀ i (h : i < ns.length), nodE m i ns[i] = 0) : ∀ (N i : Nat), i < N → i < ns.length → ∃ a : Int, Lf ns t i a ∧ 0 ≤ a ∧ a < m := by
  intro N
  induction N with
  | zero => intro i h; omega
  | succ N ih =>
    intro i h hi
    have hok := ok i hi
    have hc := nodE_cases m i ns[i]
    cases e : ns[i].lf
    · have : 0 ≤ ns[i].ls ∧ ns[i].ls < i ∧ 0 ≤ ns[i].mr ∧ ns[i].mr < i := by
        rw [e, hok] at hc
        simp at hc
        omega
      by_cases c : t < ns[i].bd
      · obtain ⟨a, ha, h1, h2⟩ := ih ns[i].ls.toNat (by omega) (by omega)
        exact ⟨a, .less i _ a hi e c (by omega) (by omega) ha, h1, h2⟩
      · obtain ⟨a, ha, h1, h2⟩ := ih ns[i].mr.toNat (by omega) (by omega)
        exact ⟨a, .more i _ a hi e (by omega) (by omega) (by omega) ha, h1, h2⟩
    · refine ⟨_, .leaf i hi e, ?_⟩
      rw [e, hok] at hc
      simp at hc
      omega
theorem below_nx {w w1 w2 : World} (h : Below w.heap.size w w1) (g : Below w1.heap.size w1 w2) : Below w.heap.size w w2 :=
  h.trans (g.mono h.size)
theorem valueof_any (f : Frs) (vn va : Value) (t : Int) (i : Nat) (a : Int) (hL : Lf f.nodes t i a) : ∀ (w : World), FrsAt w vn va f →
    Calls Try.prog 44 #[.agg #[vn, va], .int .i64 i, .int .i64 t] w fun e w' => e = .returned (.int .i64 a) ∧ Below w.heap.size w w' := by
  induction hL with
  | leaf i h e =>
    intro w hf
    obtain ⟨ao, cap, rfl, hl⟩ := hf.1.shape
    obtain ⟨b, off, rfl, hb, c0, c1, c2, c3, c4⟩ := elemNod hf.1 i h
    have hl' := maxLen_eq _ hl
    clear hl hf
    rw [e] at c0
    generalize f.nodes[i] = x at *
    go_enter Try.func44, Try.ntmps44
    go_wp2
    go_ret
    exact ⟨rfl, ((Below.refl _ _).alloc (Nat.le_refl _) _).alloc (size_le_push_ w _) _⟩
  | less i k a h e c hk hl r ih =>
    intro w hf
    obtain ⟨ao, cap, rfl, hl2⟩ := hf.1.shape
    obtain ⟨b, off, rfl, hb, c0, c1, c2, c3, c4⟩ := elemNod hf.1 i h
    have hl' := maxLen_eq _ hl2
    have HF := Lib.hid hf
    have IH := Lib.hid ih
    clear hl2 hf ih r
    rw [e] at c0
    rw [hk] at c3
    generalize f.nodes[i] = x at *
    clear hk
    go_enter Try.func44, Try.ntmps44
    go_wp2_with (go_at_call 44; refine (IH.out _ (HF.out.mono (((Below.refl _ _).alloc (Nat.le_refl _) _).alloc (size_le_push_ w _) _))).mono ?_; rintro e w' ⟨rfl, hb1⟩)
    go_ret
    exact ⟨rfl, below_nx (((Below.refl _ _).alloc (Nat.le_refl _) _).alloc (size_le_push_ w _) _) hb1⟩
  | more i k a h e c hk hl r ih =>
    intro w hf
    obtain ⟨ao, cap, rfl, hl2⟩ := hf.1.shape
    obtain ⟨b, off, rfl, hb, c0, c1, c2, c3, c4⟩ := elemNod hf.1 i h
    have hl' := maxLen_eq _ hl2
    have HF := Lib.hid hf
    have IH := Lib.hid ih
    clear hl2 hf ih r
    rw [e] at c0
    rw [hk] at c4
    generalize f.nodes[i] = x at *
    clear hk
    go_enter Try.func44, Try.ntmps44
    go_wp2_with (go_at_call 44; refine (IH.out _ (HF.out.mono (((Below.refl _ _).alloc (Nat.le_refl _) _).alloc (size_le_push_ w _) _))).mono ?_; rintro e w' ⟨rfl, hb1⟩)
    go_ret
    exact ⟨rfl, below_nx (((Below.refl _ _).alloc (Nat.le_refl _) _).alloc (size_le_push_ w _) _) hb1⟩
end Go.Proofs.Ytlhidbbphngpcaa
