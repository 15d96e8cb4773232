/-
  Slices that read as lists, whatever their elements.
-/
import Derived.Test.YtlhidbbphngpcaaRead
import Derived.DataReads
import Derived.Deep.Slices
namespace Go.Proofs.Ytlhidbbphngpcaa
set_option linter.unusedVariables false
set_option linter.unusedSimpArgs false
open Go.ChangeShapes Go.WideShapes Go.ChangeAt Go.RowKit

/-- the slice value v reads as the list xs: element i lies in sz cells that R holds of. -/
def SlAt {α : Type} (w : World) (sz : Nat) (R : List Value → α → Prop) (v : Value) (xs : List α) : Prop :=
  (∃ a cap, v = .slice a 0 cap ∧ xs = []) ∨
  (∃ b off cap, v = .slice (some ⟨b, off, none⟩) xs.length cap ∧ 0 < xs.length ∧ xs.length ≤ cap ∧ cap ≤ maxLen ∧ b < w.heap.size ∧
    ∀ (i : Nat) (h : i < xs.length), ∃ cs : List Value, cs.length = sz ∧ R cs xs[i] ∧ ∀ j, j < sz → w.cell? ⟨b, off + i * sz + j, none⟩ = cs[j]?)
theorem SlAt.mono {α : Type} {w w' : World} {sz : Nat} {R R' : List Value → α → Prop} {v : Value} {xs : List α} (h : SlAt w sz R v xs) (hb : Below w.heap.size w w') (hR : ∀ cs x, R cs x → R' cs x) : SlAt w' sz R' v xs := by
  rcases h with h | ⟨b, off, cap, hv, h0, h1, h2, h3, h4⟩
  · exact .inl h
  · refine .inr ⟨b, off, cap, hv, h0, h1, h2, Nat.lt_of_lt_of_le h3 hb.size, fun i hi => ?_⟩
    obtain ⟨cs, c1, c2, c3⟩ := h4 i hi
    exact ⟨cs, c1, hR _ _ c2, fun j hj => by rw [hb.cell (p := ⟨b, _, none⟩) h3]; exact c3 j hj⟩
theorem add_one_ (b off k : Nat) : (⟨b, off, none⟩ : Addr).add k = ⟨b, off + k, none⟩ := by
  by_cases h : k = 0
  · subst h; simp [Addr.add]
  · simp [Addr.add, h]
theorem add_add (b off k j : Nat) : ((⟨b, off, none⟩ : Addr).add k).add j = ⟨b, off + k + j, none⟩ := by
  rw [add_one_, add_one_]
section
variable {H : Type} {enc : TypeId × Value → H} {P : Program} {w : World} {base : Nat} {sp : Nat → Bool} {held : Bool}
theorem slAt_of_trod {α : Type} {t e : TypeId} {sz fuel : Nat} {R : List Value → α → Prop} {cs : List Value} {y : DataW H × List MemPlace} (ht : P.underlying t = some (.slice e)) (hsz : P.cellsOf e = sz) (hpos : 0 < sz)
    (hR : ∀ m cs' z, DataW.trod enc P w base sp held m e cs' = some z → ∃ x, R cs' x) (h : DataW.trod enc P w base sp held fuel t cs = some y) :
    ∃ v xs, cs = [v] ∧ SlAt w sz R v xs := by
  rcases Deep.open_slice ht h with ⟨rfl, _⟩ | ⟨a, len, cap, m, n, D, Pl, rfl, hb, hl, hm, hmm, _, hel⟩
  · exact ⟨_, [], rfl, .inl ⟨none, 0, rfl, rfl⟩⟩
  · by_cases h0 : len = 0
    · subst h0; exact ⟨_, [], rfl, .inl ⟨some a, cap, rfl, rfl⟩⟩
    · have hlm : len ≤ m := by rw [hmm]; split <;> omega
      have hex : ∀ i, i < len → ∃ (x : α) (cs' : List Value), w.cells? base (a.add (i * sz)) sz = some cs' ∧ R cs' x := fun i hi => by
        obtain ⟨cs', h1, h2⟩ := hel i (by omega)
        obtain ⟨x, hx⟩ := hR _ _ _ h2
        rw [hsz] at h1
        exact ⟨x, cs', h1, hx⟩
      obtain ⟨x0, _, _, _⟩ := hex 0 (by omega)
      have hch : ∀ i, ∃ x : α, i < len → ∃ cs' : List Value, w.cells? base (a.add (i * sz)) sz = some cs' ∧ R cs' x := fun i => by
        by_cases hi : i < len
        · obtain ⟨x, hx⟩ := hex i hi; exact ⟨x, fun _ => hx⟩
        · exact ⟨x0, fun h => absurd h hi⟩
      obtain ⟨X, hX⟩ := Classical.axiomOfChoice hch
      obtain ⟨cs0, k0, _⟩ := hX 0 (by omega)
      obtain ⟨hbb, hl0, hc0⟩ := World.cells?_some k0
      obtain ⟨b, off, spot⟩ := a
      have hv0 : ∃ u, w.cell? (((⟨b, off, spot⟩ : Addr).add (0 * sz)).add 0) = some u := by
        rw [hc0 0 hpos]; exact ⟨_, List.getElem?_eq_getElem (by omega)⟩
      obtain ⟨u0, hu0⟩ := hv0
      have hspot : spot = none := by simpa [Addr.add] using World.cell?_spot hu0
      subst hspot
      have hblk : b < w.heap.size := by
        rcases Nat.lt_or_ge b w.heap.size with g | g
        · exact g
        · simp [World.cell?, Addr.add, Array.getElem?_eq_none g] at hu0
      refine ⟨_, (List.range len).map X, rfl, .inr ⟨b, off, cap, by simp, by simp; omega, by simpa using hl, hm, hblk, fun i hi => ?_⟩⟩
      have hi' : i < len := by simpa using hi
      obtain ⟨cs', e1, e2⟩ := hX i hi'
      obtain ⟨_, e3, e4⟩ := World.cells?_some e1
      refine ⟨cs', e3, by simpa using e2, fun j hj => ?_⟩
      have := e4 j hj
      rw [show (((⟨b, off, none⟩ : Addr).add (i * sz)).add j) = ⟨b, off + i * sz + j, none⟩ from add_add b off (i * sz) j] at this
      exact this
end
end Go.Proofs.Ytlhidbbphngpcaa
