/-
  Nodes as keys of a map; what the map of shared nodes holds.
-/
import Derived.Test.YtlhidbbphngpcaaOptC
import Derived.Test.YtlhidbbphngpcaaFwdC
import Derived.DeepKeys4
import Derived.Maps.OwnOps
import Derived.Test.YtlhidbbphngpcaaOptZ
namespace Go.Proofs.Ytlhidbbphngpcaa
set_option linter.unusedVariables false
set_option linter.unusedSimpArgs false
open Go.ChangeShapes Go.WideShapes Go.ChangeAt Go.RowKit

def nV (n : Nod) : Value := .agg #[.bool n.lf, .int .i64 n.an, .int .i64 n.bd, .int .i64 n.ls, .int .i64 n.mr]
theorem nV_inj {n m : Nod} (h : nV n = nV m) : n = m := by
  obtain ⟨a, b, c, d, e⟩ := n
  obtain ⟨a', b', c', d', e'⟩ := m
  unfold nV at h
  simp at h
  obtain ⟨rfl, rfl, rfl, rfl, rfl⟩ := h
  rfl
theorem laidOutN : laidOutB Try.prog = true := by kernel_rfl
theorem nod_row : (61 : TypeId) < Try.prog.types.size := of_decide_eq_true (by kernel_rfl)
theorem pos_succ {k : Nat} (n : Nat) (h : k < n) : ∃ m, n = m + 1 := ⟨n - 1, by omega⟩
theorem nod_cells : Try.prog.cellsOf 61 = 5 := by kernel_rfl
theorem int_cells : Try.prog.cellsOf 3 = 1 := by kernel_rfl
theorem bool_cells : Try.prog.cellsOf 4 = 1 := by kernel_rfl
theorem nod_kt : Try.prog.keyType 61 = true := by kernel_rfl
theorem nlaw : Maps.Keyed Try.prog 61 := Maps.Keyed.of_law (deep_law_laid laidOutN (m := 2) (by omega) nod_row (by kernel_rfl) (by rw [Try.underlying61]))
theorem nod_key (n : Nod) (h : I64 n.an ∧ I64 n.bd ∧ I64 n.ls ∧ I64 n.mr) : ∃ l, keyOf Try.prog 61 (nV n) = some l := by
  obtain ⟨h1, h2, h3, h4⟩ := h
  unfold I64 at h1 h2 h3 h4
  have hb : ∀ d, Try.prog.keyLits (d + 1) 4 [.bool n.lf] = some [.bool n.lf] := fun d => by
    unfold Program.keyLits; rw [Try.underlying4]
  have hi : ∀ d x, (Lit.int .i64 x).wf = true → Try.prog.keyLits (d + 1) 3 [.int .i64 x] = some [.int .i64 x] := fun d x hx => by
    unfold Program.keyLits; rw [Try.underlying3]
    simp [hx]
  obtain ⟨sz, hsz⟩ := pos_succ _ nod_row
  have hk : ∃ ls, Try.prog.keyLits (Try.prog.types.size + 1) 61 (nV n).cells.toList = some ls := by
    rw [hsz]
    unfold Program.keyLits
    rw [Try.underlying61]
    unfold nV
    simp [Value.cells, nod_cells, int_cells, bool_cells, hb, hi, h1, h2, h3, h4]
  obtain ⟨ls, hls⟩ := hk
  unfold keyOf
  rw [Try.underlying61]
  dsimp only
  rw [nod_kt, hls]
  refine ⟨.string (keyBytes ls), ?_⟩
  rw [if_pos]
  · rfl
  · simp [Value.formed, Try.underlying61, nV, nod_cells]
def N64 (n : Nod) : Prop := I64 n.an ∧ I64 n.bd ∧ I64 n.ls ∧ I64 n.mr
noncomputable def kN (n : Nod) : Lit := (keyOf Try.prog 61 (nV n)).getD (.bool false)
theorem kN_eq {n : Nod} (h : N64 n) : keyOf Try.prog 61 (nV n) = some (kN n) := by
  obtain ⟨l, hl⟩ := nod_key n h
  unfold kN
  rw [hl]; rfl
attribute [irreducible] kN
theorem kN_inj {n m : Nod} (h : N64 n) (h' : N64 m) (e : kN n = kN m) : n = m := by
  have h1 := kN_eq h
  have h2 := kN_eq h'
  rw [← e] at h2
  generalize kN n = l at h1 h2
  exact nV_inj (Maps.Keyed.inj nlaw h1 h2)
theorem kN_key {n : Nod} (h : N64 n) : WideAt.IsKeyLit (kN n) := by
  have h1 := kN_eq h
  generalize kN n = l at h1
  exact Maps.Keyed.key nlaw h1
/-- the map of the nodes that are laid. -/
def ShM (D : DataW Unit) (out : List Nod) : Prop := Maps.IsMap D ∧ ∀ n, N64 n → (Maps.has D (kN n) = true ↔ n ∈ out) ∧ ∀ p : Nat, out[p]? = some n → (∀ q : Nat, q < p → out[q]? ≠ some n) → D.atKey (kN n) (dIZ 0) = dIZ p
theorem ShM.put {D : DataW Unit} {out : List Nod} (h : ShM D out) (h64 : ∀ n ∈ out, N64 n) {y : Nod} (hy : N64 y) (hn : y ∉ out) : ShM (D.put (kN y) (dIZ out.length)) (out ++ [y]) := by
  refine ⟨h.1.put _ _, fun c hc => ?_⟩
  by_cases e : c = y
  · subst e
    refine ⟨by rw [Maps.has_put_same h.1 (kN_key hc)]; simp, fun p hp hq => ?_⟩
    rw [Maps.atKey_put_same h.1 (kN_key hc)]
    have : p = out.length := by
      rcases Nat.lt_trichotomy p out.length with g | g | g
      · rw [List.getElem?_append_left g] at hp
        exact absurd (List.mem_of_getElem? hp) hn
      · exact g
      · rw [List.getElem?_eq_none (by simp; omega)] at hp; cases hp
    rw [this]
  · have hk : kN c ≠ kN y := fun e' => e (kN_inj hc hy e')
    obtain ⟨h1, h2⟩ := h.2 c hc
    refine ⟨by rw [Maps.has_put_other hk, h1]; simp [e], fun p hp hq => ?_⟩
    rw [Maps.atKey_put_other hk]
    have hp' : p < out.length := by
      rcases Nat.lt_trichotomy p out.length with g | g | g
      · exact g
      · subst g; simp at hp; exact absurd hp.symm e
      · rw [List.getElem?_eq_none (by simp; omega)] at hp; cases hp
    rw [List.getElem?_append_left hp'] at hp
    exact h2 p hp fun q hq' e' => hq q hq' (by rw [List.getElem?_append_left (by omega)]; exact e')
theorem ShM.zero : ShM (.map []) [] := ⟨⟨[], rfl⟩, fun n hn => ⟨by simp [Maps.has], fun p hp => by simp at hp⟩⟩
def MpN (w : World) (b n : Nat) (D : DataW Unit) : Prop := w.ownsMap Try.prog 61 (plainElem Try.prog 3) b n D
theorem MpN.block {w w' : World} {b n : Nat} {D : DataW Unit} (h : MpN w b n D) (hb : w'.heap[b]? = w.heap[b]?) : MpN w' b n D := by
  obtain ⟨es, clock, h1, h2⟩ := h
  exact ⟨es, clock, hb.trans h1, h2⟩
end Go.Proofs.Ytlhidbbphngpcaa
