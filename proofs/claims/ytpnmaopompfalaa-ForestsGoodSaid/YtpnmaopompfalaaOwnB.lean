/-
  append(nil, xs...): a copy in new memory.
-/
import Derived.Test.YtpnmaopompfalaaTreeH
namespace Go.Proofs.Ytpnmaopompfalaa
set_option linter.unusedVariables false
set_option linter.unusedSimpArgs false
open Go.ChangeShapes Go.WideShapes Go.ChangeAt Go.RowKit

theorem len_flat {α : Type} {enc : α → List Value} {sz : Nat} (he : ∀ x, (enc x).length = sz) : ∀ (xs : List α), (xs.flatMap enc).length = xs.length * sz
  | [] => by simp
  | x :: xs => by rw [List.flatMap_cons, List.length_append, he, len_flat he xs, List.length_cons, Nat.succ_mul]; omega
/-- the cells that a slice reads, as one list. -/
theorem slAt_cells {α : Type} {w : World} {sz b off n cap : Nat} {R : List Value → α → Prop} {xs : List α} (h4 : ∀ (i : Nat) (h : i < xs.length), ∃ cs : List Value, cs.length = sz ∧ R cs xs[i] ∧ ∀ j, j < sz → w.cell? ⟨b, off + i * sz + j, none⟩ = cs[j]?) :
    ∃ C : Nat → List Value, (∀ i, (C i).length = sz) ∧ (∀ i (h : i < xs.length), R (C i) xs[i]) ∧ ∀ i, i < xs.length → ∀ j, j < sz → w.cell? ⟨b, off + i * sz + j, none⟩ = (C i)[j]? := by
  have hch : ∀ i, ∃ cs : List Value, cs.length = sz ∧ ∀ h : i < xs.length, R cs xs[i] ∧ ∀ j, j < sz → w.cell? ⟨b, off + i * sz + j, none⟩ = cs[j]? := fun i => by
    by_cases hi : i < xs.length
    · obtain ⟨cs, h1, h2, h3⟩ := h4 i hi
      exact ⟨cs, h1, fun _ => ⟨h2, h3⟩⟩
    · exact ⟨List.replicate sz (.int .i64 0), by simp, fun h => absurd h hi⟩
  obtain ⟨C, hC⟩ := Classical.axiomOfChoice hch
  exact ⟨C, fun i => (hC i).1, fun i h => ((hC i).2 h).1, fun i h => ((hC i).2 h).2⟩
theorem div_at {n sz j : Nat} (hs : 0 < sz) (h : j < n * sz) : ∃ i r, i < n ∧ r < sz ∧ j = i * sz + r :=
  ⟨j / sz, j % sz, Nat.div_lt_of_lt_mul (by rw [Nat.mul_comm]; exact h), Nat.mod_lt _ hs, by rw [Nat.mul_comm]; exact (Nat.div_add_mod j sz).symm⟩
theorem wpList_append_copy {P : Program} {w : World} {ops : Array Oper} {rest : List Oper} {o : Oper} {a : Act} {Q : Exit → Act → World → Prop} {α : Type} (hgd : o.guard = none) (s x : Operand) (t : TypeId)
    (ho : o.op = .call { callee := .builtin .append, args := #[s, x], argTypes := #[t, t] })
    (e : TypeId) (i : TypeInfo) (z : Value) (size bytes : Nat) (ht : P.underlying t = some (.slice e)) (hi : P.info? e = some i) (hz : i.zero = some z)
    (hsize : i.size = size) (hby : i.bytes = bytes) (hzs : z.cells.size = size) (hsz : 0 < size) (hs : a.eval s = .slice none 0 0)
    (v : Value) (xs : List α) (R : List Value → α → Prop) (hx : a.eval x = v) (hv : SlAt w size R v xs) (hnil : ∀ n cap, v = .slice none n cap → cap = 0)
    (h1 : ∀ cs y, R cs y → ∀ u ∈ cs, u.oneCell' = true) (h63 : xs.length ≤ maxLen) (hbytes : xs.length * bytes ≤ 140737488355328)
    (h : ∀ v' w', SlAt w' size R v' xs → Below w.heap.size w w' → wpList P ops Q rest (a.put o.dst v') w') : wpList P ops Q (o :: rest) a w := by
  rcases hv with ⟨ad, cap, rfl, rfl⟩ | ⟨b, off, cap, rfl, h0, hc, hm, hb, h4⟩
  · cases ad with
    | none =>
      obtain rfl := hnil _ _ rfl
      exact wpList_append_own_none hgd s x t ho w.heap.size e i size ht hi _ 0 [] hs (World.ownsRow_nil _ _ _ _) hx (h _ _ (.inl ⟨none, 0, rfl, rfl⟩) (Below.refl _ _))
    | some ad =>
      refine wpList_append_own w hgd s x t ho w.heap.size e i z size bytes ht hi hz hsize hby hzs hsz _ 0 [] hs (World.ownsRow_nil _ _ _ _) ad 0 cap [] hx (by simp) (by simp) (by simp) (by simp [maxLen]) (by simp) (Nat.le_refl _) ?_
      intro v' w' hown hg _
      obtain ⟨a2, c2, rfl⟩ := own_shape hown
      exact h _ _ (.inl ⟨a2, c2, rfl, rfl⟩) ((Below.refl _ _).grown hg (Nat.le_refl _) (fun k hk => by simp [Value.ownBlock] at hk))
  · obtain ⟨C, hC1, hC2, hC3⟩ := slAt_cells (n := 0) (cap := 0) h4
    have hl : ((List.range xs.length).flatMap C).length = xs.length * size := by rw [len_flat hC1, List.length_range]
    have hat : ∀ i r, i < xs.length → r < size → ((List.range xs.length).flatMap C)[i * size + r]? = (C i)[r]? := fun i r hi hr => by
      have := flat_at hC1 (List.range xs.length) i r (by simpa using hi) hr
      simpa using this
    refine wpList_append_own w hgd s x t ho w.heap.size e i z size bytes ht hi hz hsize hby hzs hsz _ 0 [] hs (World.ownsRow_nil _ _ _ _) ⟨b, off, none⟩ xs.length cap ((List.range xs.length).flatMap C) hx hl ?_ ?_ (by rw [Nat.zero_add]; exact h63) (by rw [Nat.zero_add]; exact hbytes) (Nat.le_refl _) ?_
    · intro j u hj
      have hjl : j < xs.length * size := by rw [← hl]; exact (List.getElem?_eq_some_iff.1 hj).1
      obtain ⟨i, r, hi, hr, rfl⟩ := div_at hsz hjl
      rw [hat i r hi hr] at hj
      rw [add_one_, ← Nat.add_assoc, hC3 i hi r hr]
      exact hj
    · intro u hu
      obtain ⟨i, hi, hu⟩ := List.mem_flatMap.1 hu
      exact h1 _ _ (hC2 i (by simpa using hi)) u hu
    · intro v' w' hown hg _
      rw [Nat.zero_add, List.nil_append] at hown
      refine h _ _ ?_ ((Below.refl _ _).grown hg (Nat.le_refl _) (fun k hk => by simp [Value.ownBlock] at hk))
      have hown' := hown
      obtain ⟨_, h2⟩ := hown'
      rcases h2 with ⟨_, e0⟩ | ⟨g, cap', cur, rfl, hgb, hh, hcc, hmm, _⟩
      · omega
      · have hg' : g < w'.heap.size := by
          rcases Nat.lt_or_ge g w'.heap.size with q | q
          · exact q
          · rw [Array.getElem?_eq_none q] at hh; cases hh
        refine .inr ⟨g, 0, cap', rfl, h0, hcc, hmm, hg', fun i hi => ⟨C i, hC1 i, hC2 i hi, fun j hj => ?_⟩⟩
        have hlt : i * size + j < xs.length * size := by
          have : (i + 1) * size ≤ xs.length * size := Nat.mul_le_mul_right _ hi
          rw [Nat.succ_mul] at this
          omega
        rw [Nat.zero_add, hown.cellAt _ hlt]
        exact hat i j hi hj
end Go.Proofs.Ytpnmaopompfalaa
