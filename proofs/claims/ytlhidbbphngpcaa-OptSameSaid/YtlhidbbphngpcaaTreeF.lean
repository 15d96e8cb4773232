/-
  tree.leaf: the measure of its loop (plain part).
-/
import Derived.Test.YtlhidbbphngpcaaTreeE
namespace Go.Proofs.Ytlhidbbphngpcaa
set_option linter.unusedVariables false
set_option linter.unusedSimpArgs false
open Go.ChangeShapes Go.WideShapes Go.ChangeAt Go.RowKit

/-- node y stands at place i. -/
def NodAt (ns : List Nod) (y : Nod) (i : Nat) : Prop := ∃ h : i < ns.length, ns[i] = y
open Classical in
/-- the least place of node y. -/
noncomputable def rank (ns : List Nod) (y : Nod) : Nat := if h : ∃ n, NodAt ns y n ∧ ∀ k, k < n → ¬ NodAt ns y k then h.choose else 0
theorem least {p : Nat → Prop} : ∀ n, p n → ∃ m, (p m ∧ ∀ k, k < m → ¬ p k) ∧ m ≤ n := by
  intro n
  induction n using Nat.strongRecOn with
  | ind n ih =>
    intro hn
    by_cases h : ∃ k, k < n ∧ p k
    · obtain ⟨k, hk, hp⟩ := h
      obtain ⟨m, hm, hle⟩ := ih k hk hp
      exact ⟨m, hm, by omega⟩
    · exact ⟨n, ⟨hn, fun k hk hp => h ⟨k, hk, hp⟩⟩, Nat.le_refl _⟩
theorem rank_le (ns : List Nod) (y : Nod) (i : Nat) (h : NodAt ns y i) : rank ns y ≤ i ∧ NodAt ns y (rank ns y) := by
  obtain ⟨m, hm, hle⟩ := least i h
  have hex : ∃ n, NodAt ns y n ∧ ∀ k, k < n → ¬ NodAt ns y k := ⟨m, hm⟩
  have e : rank ns y = hex.choose := by unfold rank; rw [dif_pos hex]
  have hs := hex.choose_spec
  rw [e]
  refine ⟨?_, hs.1⟩
  by_cases hl : i < hex.choose
  · exact absurd h (hs.2 i hl)
  · omega
/-- a step of the walk goes down. -/
theorem rank_lt (ns : List Nod) (m : Int) (ok : ∀ i (h : i < ns.length), nodE m i ns[i] = 0) (y z : Nod) (i k : Nat) (hy : NodAt ns y i) (hz : NodAt ns z k) (hf : y.lf = false) (hk : y.ls = k ∨ y.mr = k) : rank ns z < rank ns y := by
  obtain ⟨_, hr, er⟩ := rank_le ns y i hy
  have h1 := (rank_le ns z k hz).1
  have hok := ok _ hr
  have hc := nodE_cases m (rank ns y) ns[rank ns y]
  rw [hok, er, hf] at hc
  simp at hc
  omega
def asB : Option Value → Bool
  | some (.bool b) => b
  | _ => false
def asI : Option Value → Int
  | some (.int _ n) => n
  | _ => 0
def boxN (x : Nat) (wr : World) : Nod := ⟨asB (wr.cell? ⟨x, 0, none⟩), asI (wr.cell? ⟨x, 1, none⟩), asI (wr.cell? ⟨x, 2, none⟩), asI (wr.cell? ⟨x, 3, none⟩), asI (wr.cell? ⟨x, 4, none⟩)⟩
def leafW (w : World) (c : Obj) (y : Nod) : World := (w.alloc c).alloc (.cells #[.bool y.lf, .int .i64 y.an, .int .i64 y.bd, .int .i64 y.ls, .int .i64 y.mr] 61)
theorem boxN_leafW (w : World) (c : Obj) (y : Nod) : boxN (w.heap.size + 1) (leafW w c y) = y := by
  have h : ∀ j, (leafW w c y).cell? ⟨w.heap.size + 1, j, none⟩ = _ := fun j => World.cell?_alloc_at (w := w.alloc c) _ _ (w.heap.size + 1) j (by show _ = (w.heap.push c).size; rw [Array.size_push])
  unfold boxN
  rw [h, h, h, h, h]
  rfl
theorem lf_step (ns : List Nod) (t a : Int) (k : Nat) (y : Nod) (hL : Lf ns t k a) (hy : NodAt ns y k) :
    (y.lf = true ∧ y.an = a) ∨ (y.lf = false ∧ t < y.bd ∧ ∃ j : Nat, y.ls = j ∧ j < k ∧ Lf ns t j a) ∨ (y.lf = false ∧ y.bd ≤ t ∧ ∃ j : Nat, y.mr = j ∧ j < k ∧ Lf ns t j a) := by
  obtain ⟨h, rfl⟩ := hy
  cases hL with
  | leaf i h2 e => exact .inl ⟨e, rfl⟩
  | less i j a h2 e c hk hl r => exact .inr (.inl ⟨e, c, j, hk, hl, r⟩)
  | more i j a h2 e c hk hl r => exact .inr (.inr ⟨e, c, j, hk, hl, r⟩)
end Go.Proofs.Ytlhidbbphngpcaa
