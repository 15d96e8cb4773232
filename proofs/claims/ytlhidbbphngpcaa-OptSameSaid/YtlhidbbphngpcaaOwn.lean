/-
  Slices of the call's own: how they read as lists.
-/
import Derived.Test.YtlhidbbphngpcaaTreeC
import Derived.OwnWalk
import Derived.Laws.OwnMore
namespace Go.Proofs.Ytlhidbbphngpcaa
set_option linter.unusedVariables false
set_option linter.unusedSimpArgs false
open Go.ChangeShapes Go.WideShapes Go.ChangeAt Go.RowKit

theorem flat_at {α : Type} {enc : α → List Value} {sz : Nat} (he : ∀ x, (enc x).length = sz) : ∀ (xs : List α) (i j : Nat) (hi : i < xs.length), j < sz → (xs.flatMap enc)[i * sz + j]? = (enc xs[i])[j]?
  | [], i, j, hi, _ => by simp at hi
  | x :: xs, 0, j, _, hj => by
    simp only [List.flatMap_cons, Nat.zero_mul, Nat.zero_add, List.getElem_cons_zero]
    rw [List.getElem?_append_left (by rw [he]; exact hj)]
  | x :: xs, i + 1, j, hi, hj => by
    simp only [List.flatMap_cons, List.getElem_cons_succ]
    rw [List.getElem?_append_right (by rw [he, Nat.succ_mul]; omega)]
    rw [show (i + 1) * sz + j - (enc x).length = i * sz + j from by rw [he, Nat.succ_mul]; omega]
    exact flat_at he xs i j (by simpa using hi) hj
theorem slAt_of_own {α : Type} {w : World} {base : Nat} {e : TypeId} {sz : Nat} {R : List Value → α → Prop} {enc : α → List Value} {v : Value} {xs : List α} (hs : 0 < sz) (he : ∀ x, (enc x).length = sz) (hR : ∀ x ∈ xs, R (enc x) x)
    (h : w.ownsRow base e sz v xs.length (xs.flatMap enc)) : SlAt w sz R v xs := by
  obtain ⟨hl, h⟩ := h
  rcases h with ⟨rfl, h0⟩ | ⟨g, cap, cur, rfl, hb, hh, hc, hm, hs', ht⟩
  · exact .inl ⟨none, 0, rfl, List.length_eq_zero_iff.1 h0⟩
  · by_cases h0 : xs.length = 0
    · exact .inl ⟨some ⟨g, 0, none⟩, cap, by rw [h0], List.length_eq_zero_iff.1 h0⟩
    · have hown : w.ownsRow base e sz (.slice (some ⟨g, 0, none⟩) xs.length cap) xs.length (xs.flatMap enc) := ⟨hl, .inr ⟨g, cap, cur, rfl, hb, hh, hc, hm, hs', ht⟩⟩
      have hg : g < w.heap.size := by
        rcases Nat.lt_or_ge g w.heap.size with q | q
        · exact q
        · rw [Array.getElem?_eq_none q] at hh; cases hh
      refine .inr ⟨g, 0, cap, rfl, by omega, hc, hm, hg, fun i hi => ⟨enc xs[i], he _, hR _ (List.getElem_mem hi), fun j hj => ?_⟩⟩
      have hlt : i * sz + j < xs.length * sz := by
        have : (i + 1) * sz ≤ xs.length * sz := Nat.mul_le_mul_right _ hi
        rw [Nat.succ_mul] at this
        omega
      rw [Nat.zero_add, hown.cellAt _ hlt]
      exact flat_at he xs i j hi hj
def encI (x : Int) : List Value := [.int .i64 x]
theorem ints_of_own {w : World} {base : Nat} {e : TypeId} {v : Value} {xs : List Int} (hR : ∀ x ∈ xs, I64 x) (h : w.ownsRow base e 1 v xs.length (xs.flatMap encI)) : SlAt w 1 RInt v xs :=
  slAt_of_own (by omega) (fun _ => rfl) (fun x hx => ⟨rfl, hR x hx⟩) h
theorem SlAt.all {α : Type} {w : World} {sz : Nat} {R : List Value → α → Prop} {v : Value} {xs : List α} (h : SlAt w sz R v xs) (x : α) (hx : x ∈ xs) : ∃ cs, R cs x := by
  rcases h with ⟨a, cap, hv, rfl⟩ | ⟨b, off, cap, hv, h0, h1, h2, h3, h4⟩
  · simp at hx
  · obtain ⟨i, hi, rfl⟩ := List.mem_iff_getElem.1 hx
    obtain ⟨cs, _, r, _⟩ := h4 i hi
    exact ⟨cs, r⟩
theorem ints64 {w : World} {v : Value} {xs : List Int} (h : SlAt w 1 RInt v xs) (x : Int) (hx : x ∈ xs) : I64 x := by
  obtain ⟨cs, _, h⟩ := h.all x hx; exact h
theorem nods64 {w : World} {v : Value} {xs : List Nod} (h : SlAt w 5 RNod v xs) (x : Nod) (hx : x ∈ xs) : I64 x.an ∧ I64 x.bd ∧ I64 x.ls ∧ I64 x.mr := by
  obtain ⟨cs, _, h⟩ := h.all x hx; exact h
theorem own_snoc {w : World} {B : Nat} {e : TypeId} {v : Value} {xs : List Int} {x : Int} (h : w.ownsRow B e 1 v (xs.length + 1) (xs.flatMap encI ++ [.int .i64 x])) : w.ownsRow B e 1 v (xs ++ [x]).length ((xs ++ [x]).flatMap encI) := by
  have e1 : (xs ++ [x]).flatMap encI = xs.flatMap encI ++ [.int .i64 x] := by simp [encI]
  rw [e1, List.length_append]
  exact h
theorem info_int : (Try.prog.info? 3).map (fun i => (i.zero, i.size, i.bytes)) = some (some (.int .i64 0), 1, 8) := by kernel_rfl
theorem size_alloc (w : World) (o : Obj) : (w.alloc o).heap.size = w.heap.size + 1 := by show (w.heap.push o).size = _; rw [Array.size_push]
theorem one_cell (w : World) (u : Value) (e : TypeId) : ∀ j x, [u][j]? = some x → (w.alloc (.cells #[u] e)).cell? ((⟨w.heap.size, 0, none⟩ : Addr).add j) = some x := by
  intro j x hj
  match j, hj with
  | 0, hj =>
    simp at hj; subst hj
    have := World.cell?_alloc_at (w := w) #[u] e w.heap.size 0 rfl
    simp [Addr.add, this]
end Go.Proofs.Ytlhidbbphngpcaa
