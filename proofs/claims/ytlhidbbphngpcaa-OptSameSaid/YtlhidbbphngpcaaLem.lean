/-
  Small laws that many texts share.
-/
import Derived.Test.YtlhidbbphngpcaaOwn
import Derived.Laws.AppendOwnNone
import Derived.Deep.RegionHeld3
import Derived.IntWalk
namespace Go.Proofs.Ytlhidbbphngpcaa
set_option linter.unusedVariables false
set_option linter.unusedSimpArgs false
open Go.ChangeShapes Go.WideShapes Go.ChangeAt Go.RowKit

theorem size_le_push_ (w : World) (o : Obj) : w.heap.size ≤ (w.alloc o).heap.size := by show _ ≤ (w.heap.push o).size; rw [Array.size_push]; omega
theorem two_new (w : World) (c d : Array Value) (e e' : TypeId) :
    ((w.alloc (.cells c e)).alloc (.cells d e')).heap.size = w.heap.size + 2 ∧ (∀ j, ((w.alloc (.cells c e)).alloc (.cells d e')).cell? ⟨w.heap.size, j, none⟩ = c[j]?) ∧ (∀ j, ((w.alloc (.cells c e)).alloc (.cells d e')).cell? ⟨w.heap.size + 1, j, none⟩ = d[j]?) ∧
    (∀ j, ((w.alloc (.cells c e)).alloc (.cells d e')).frozen? ⟨w.heap.size, j, none⟩ = false) ∧ (∀ j, ((w.alloc (.cells c e)).alloc (.cells d e')).frozen? ⟨w.heap.size + 1, j, none⟩ = false) := by
  have hs := size_alloc w (.cells c e)
  have hB : Below (w.alloc (.cells c e)).heap.size (w.alloc (.cells c e)) ((w.alloc (.cells c e)).alloc (.cells d e')) := (Below.refl _ _).alloc (Nat.le_refl _) _
  refine ⟨by rw [size_alloc, hs], fun j => ?_, fun j => World.cell?_alloc_at _ _ _ _ hs.symm, fun j => ?_, fun j => ?_⟩
  · rw [hB.cell (p := ⟨w.heap.size, j, none⟩) (by rw [hs]; exact Nat.lt_succ_self _)]
    exact World.cell?_alloc_at _ _ _ _ rfl
  · rw [hB.frozen (p := ⟨w.heap.size, j, none⟩) (by rw [hs]; exact Nat.lt_succ_self _)]
    exact World.frozen?_alloc_at _ _ _ _ rfl
  · exact World.frozen?_alloc_at _ _ _ _ hs.symm
theorem own_shape {w : World} {B n sz : Nat} {e : TypeId} {v : Value} {xs : List Value} (h : w.ownsRow B e sz v n xs) : ∃ a cap, v = .slice a n cap := by
  rcases h.2 with ⟨rfl, rfl⟩ | ⟨g, cap, cur, rfl, _⟩
  · exact ⟨none, 0, rfl⟩
  · exact ⟨_, cap, rfl⟩
theorem ownsRow_base {w : World} {B C n sz : Nat} {e : TypeId} {v : Value} {xs : List Value} (hC : C ≤ B) (h : w.ownsRow B e sz v n xs) : w.ownsRow C e sz v n xs := by
  obtain ⟨h1, h2⟩ := h
  refine ⟨h1, ?_⟩
  rcases h2 with h2 | ⟨g, cap, cur, hv, hg, r⟩
  · exact .inl h2
  · exact .inr ⟨g, cap, cur, hv, by omega, r⟩
theorem encI_len (xs : List Int) : (xs.flatMap encI).length = xs.length := by induction xs <;> simp_all [encI]
theorem encI_one (xs : List Int) : ∀ u ∈ xs.flatMap encI, u.oneCell' = true := by
  intro u hu
  obtain ⟨x, _, hx⟩ := List.mem_flatMap.1 hu
  simp [encI] at hx
  subst hx
  rfl
theorem take_snoc {α : Type} (xs : List α) (k : Nat) (h : k < xs.length) : xs.take (k + 1) = xs.take k ++ [xs[k]] := by
  rw [List.take_succ_eq_append_getElem h]
theorem elemInt {w : World} {aa : Option Addr} {n ca : Nat} {xs : List Int} (h : SlAt w 1 RInt (.slice aa n ca) xs) (k : Nat) (hk : k < xs.length) :
    ∃ b off, aa = some ⟨b, off, none⟩ ∧ b < w.heap.size ∧ w.cell? ⟨b, off + k, none⟩ = some (.int .i64 xs[k]) ∧ I64 xs[k] := by
  rcases h with ⟨a, cap, hv, rfl⟩ | ⟨b, off, cap, hv, h0, h1, h2, h3, h4⟩
  · simp at hk
  · simp only [Value.slice.injEq] at hv
    obtain ⟨p, q⟩ := intCell h4 k hk
    exact ⟨b, off, hv.1, h3, p, q⟩
theorem ferr_all {α : Type} (f : Nat → α → Int) : ∀ (xs : List α) (s : Nat), ferr f s xs = 0 → ∀ i (hi : i < xs.length), f (s + i) xs[i] = 0
  | [], _, _, i, hi => by simp at hi
  | x :: xs, s, h, 0, _ => by
    unfold ferr at h
    by_cases e : f s x = 0
    · simpa using e
    · rw [if_pos e] at h; exact absurd h e
  | x :: xs, s, h, i + 1, hi => by
    unfold ferr at h
    by_cases e : f s x = 0
    · rw [if_neg (by simpa using e)] at h
      have := ferr_all f xs (s + 1) h i (by simpa using hi)
      simp only [List.getElem_cons_succ]
      rw [show s + (i + 1) = s + 1 + i from by omega]
      exact this
    · rw [if_pos e] at h; exact absurd h e
theorem ansE_offs {a : Ans} (h : ansE a = 0) : a.offs.length ≤ 6 ∧ a.ck.nm.size ≤ 24 := by
  unfold ansE at h
  split at h
  · omega
  · split at h
    · omega
    · rename_i h2
      unfold ansBig at h2
      simp at h2
      omega
theorem five_below {w w1 : World} {b : Nat} (h : Below w.heap.size w w1) (hb : w.heap.size ≤ b) (v0 v1 v2 v3 v4 : Value) :
    Below w.heap.size w (((((w1.setCell ⟨b, 0, none⟩ v0).setCell ⟨b, 1, none⟩ v1).setCell ⟨b, 2, none⟩ v2).setCell ⟨b, 3, none⟩ v3).setCell ⟨b, 4, none⟩ v4) :=
  ((((h.setCell hb _).setCell hb _).setCell hb _).setCell hb _).setCell hb _
theorem five_own {w1 : World} {B b n sz : Nat} {e : TypeId} {v : Value} {xs : List Value} (h : w1.ownsRow B e sz v n xs) (hb : b < B) (v0 v1 v2 v3 v4 : Value) :
    (((((w1.setCell ⟨b, 0, none⟩ v0).setCell ⟨b, 1, none⟩ v1).setCell ⟨b, 2, none⟩ v2).setCell ⟨b, 3, none⟩ v3).setCell ⟨b, 4, none⟩ v4).ownsRow B e sz v n xs :=
  ownsRow_setCell_below (ownsRow_setCell_below (ownsRow_setCell_below (ownsRow_setCell_below (ownsRow_setCell_below h hb _) hb _) hb _) hb _) hb _
theorem cells_new (w : World) (l : List Value) (e : TypeId) : ∀ j u, l[j]? = some u → (w.alloc (.cells l.toArray e)).cell? ((⟨w.heap.size, 0, none⟩ : Addr).add j) = some u := by
  intro j u hj
  rw [add_one_, Nat.zero_add, World.cell?_alloc_at _ _ _ _ rfl]
  simpa using hj
theorem own_snocG {α : Type} {w : World} {B sz : Nat} {e : TypeId} {v : Value} {enc : α → List Value} {xs : List α} {x : α} (h : w.ownsRow B e sz v (xs.length + 1) (xs.flatMap enc ++ enc x)) : w.ownsRow B e sz v (xs ++ [x]).length ((xs ++ [x]).flatMap enc) := by
  have e1 : (xs ++ [x]).flatMap enc = xs.flatMap enc ++ enc x := by simp
  rw [e1, List.length_append]
  exact h
theorem cells_at (w : World) (l : List Value) (c : Array Value) (e : TypeId) (n : Nat) (hn : n = w.heap.size) (hc : l = c.toList) : ∀ j u, l[j]? = some u → (w.alloc (.cells c e)).cell? ((⟨n, 0, none⟩ : Addr).add j) = some u := by
  intro j u hj
  subst hn hc
  rw [add_one_, Nat.zero_add, World.cell?_alloc_at _ _ _ _ rfl]
  simpa using hj
theorem append_keep {w wA w1 : World} {B sz n : Nat} {e : TypeId} {v : Value} {xs : List Value} (hown : w.ownsRow B e sz v n xs) (hA : Below B w wA) (hBz : B ≤ w.heap.size) (hgrow : wA.grownBy w1 v.ownBlock) : Below B w w1 :=
  hA.trans ((Below.refl B wA).grown hgrow (Nat.le_trans hBz hA.size) (fun g hg => (hown.lt g hg).1))
theorem below_alloc2 {B : Nat} {w : World} (h : B ≤ w.heap.size) (o o' : Obj) : Below B w ((w.alloc o).alloc o') := ((Below.refl B w).alloc h _).alloc (Nat.le_trans h (size_le_push_ w o)) _
theorem cell_keep {B o : Nat} {w w1 : World} {u : Value} (h : Below B w w1) (hz : B ≤ w.heap.size) (ho : o < B) (hc : w.cell? ⟨o, 0, none⟩ = some u) (hf : w.frozen? ⟨o, 0, none⟩ = false) : w1.cell? ⟨o, 0, none⟩ = some u ∧ w1.frozen? ⟨o, 0, none⟩ = false ∧ o < w1.heap.size :=
  ⟨(h.cell (p := ⟨o, 0, none⟩) ho).trans hc, (h.frozen (p := ⟨o, 0, none⟩) ho).trans hf, by have := h.size; omega⟩
theorem ownsRow_below {w w' : World} {B C n sz : Nat} {e : TypeId} {v : Value} {xs : List Value} (h : w.ownsRow B e sz v n xs) (hb : Below C w w') (hC : w.heap.size ≤ C) : w'.ownsRow B e sz v n xs := by
  obtain ⟨h1, h2⟩ := h
  refine ⟨h1, ?_⟩
  rcases h2 with h2 | ⟨g, cap, cur, hv, hg, hh, r⟩
  · exact .inl h2
  · refine .inr ⟨g, cap, cur, hv, hg, ?_, r⟩
    have hlt : g < w.heap.size := by
      rcases Nat.lt_or_ge g w.heap.size with q | q
      · exact q
      · rw [Array.getElem?_eq_none q] at hh; cases hh
    rw [hb.block g (by omega)]
    exact hh
theorem own_apart {w : World} {B B' n n' sz sz' : Nat} {e e' : TypeId} {v v' : Value} {xs xs' : List Value} (h : w.ownsRow B e sz v n xs) (h' : w.ownsRow B' e' sz' v' n' xs') (hne : e ≠ e') : v.ownBlock = none ∨ v.ownBlock ≠ v'.ownBlock := by
  rcases h.2 with ⟨rfl, _⟩ | ⟨g, cap, cur, rfl, _, hh, _⟩
  · exact .inl rfl
  · rcases h'.2 with ⟨rfl, _⟩ | ⟨g', cap', cur', rfl, _, hh', _⟩
    · exact .inr (by simp [Value.ownBlock])
    · right
      intro e1
      have e2 : g = g' := by simpa [Value.ownBlock] using e1
      subst e2
      rw [hh] at hh'
      simp at hh'
      exact hne hh'.2
theorem grown_cell {w w' : World} {row : Option Nat} (h : w.grownBy w' row) {b o : Nat} (hb : b < w.heap.size) (hne : some b ≠ row) : w'.cell? ⟨b, o, none⟩ = w.cell? ⟨b, o, none⟩ :=
  World.cell?_of_block (a := ⟨b, o, none⟩) (h.block b hb hne)
theorem i64_of {x : Int} (h1 : -9223372036854775808 ≤ x) (h2 : x ≤ 9223372036854775807) : I64 x := by
  show (Lit.int .i64 x).wf = true
  simp [Lit.wf, IntKind.min, IntKind.max, IntKind.signed, IntKind.bits]
  omega
theorem i64_zero : I64 0 := i64_of (by omega) (by omega)
theorem i64_nat (n : Nat) (h : n ≤ 100000) : I64 (n : Int) := i64_of (by omega) (by omega)
end Go.Proofs.Ytlhidbbphngpcaa
