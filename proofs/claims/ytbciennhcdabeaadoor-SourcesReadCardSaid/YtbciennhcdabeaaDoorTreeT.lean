/-
  Slices of the call's own: how they read as lists.
  Small laws that many texts share.
  The laws' small helpers: sameInts, asked.
  Which answer a forest tells: the relation, that it holds of one answer, valueOf.
  tree.leaf: the measure of its loop (plain part).
  tree.leaf: the place of the answer to which a number leads.
  The bounds of a forest; copies of answers.
  The copy of an answer by the document's function.
  tree.Eval.
  tree.Eval of a forest that may be.
  The law on tree.Eval.
  A chain of pieces as nodes: the plain part.
  A number from 0 to many - 1.
  Small laws that the texts on tree.Opt need.
  tree.chain: its closure, and the chain.
  tree.chain: pieces as a tree.
  Rows of answers, each with a row of its offsets.
  What is stored into a box of slices changes no row of numbers.
-/
import Derived.OwnWalk
import Derived.Laws.OwnMore
import Derived.Laws.AppendOwnNone
import Derived.Deep.RegionHeld3
import Derived.IntWalk
import Derived.Maps.OwnOps
import Derived.Maps.OwnSet
import Derived.Maps.Views
import Derived.StillTailTactics
import Derived.Deep.DeepCutAuto
import Derived.Deep.CutRange
import Derived.Deep.CutBlock
import Derived.Test.YtbciennhcdabeaaDoorSrcT
import Derived.Test.YtbciennhcdabeaaDoorBase
namespace Go.Proofs.YtbciennhcdabeaaDoor
set_option linter.unusedVariables false
set_option linter.unusedSimpArgs false
open Go.ChangeShapes Go.WideShapes Go.ChangeAt Go.RowKit

theorem flat_at {α : Type} {enc : α → List Value} {sz : Nat} (he : ∀ x, (enc x).length = sz) : ∀ (xs : List α) (i j : Nat) (hi : i < xs.length), j < sz → (xs.flatMap enc)[i * sz + j]? = (enc xs[i])[j]?
  | [], i, j, hi, _ => by simp at hi
  | x :: xs, 0, j, _, hj => by
    simp only [List.flatMap_cons, Nat.zero_mul, Nat.zero_add, List.getElem_cons_zero]
    rw [List.getElem?_append_left (by rw [he]; exact hj)]
  | x :: xs, i + 1, j, hi, hj => by
    simp only [List.flatMap_cons, List.getElem_cons_succ]
    rw [List.getElem?_append_right (by rw [he, Nat.succ_mul]; omega)]
    rw [show (i + 1) * sz + j - (enc x).length = i * sz + j from by rw [he, Nat.succ_mul]; omega]
    exact flat_at he xs i j (by simpa using hi) hj
theorem slAt_of_own {α : Type} {w : World} {base : Nat} {e : TypeId} {sz : Nat} {R : List Value → α → Prop} {enc : α → List Value} {v : Value} {xs : List α} (hs : 0 < sz) (he : ∀ x, (enc x).length = sz) (hR : ∀ x ∈ xs, R (enc x) x)
    (h : w.ownsRow base e sz v xs.length (xs.flatMap enc)) : SlAt w sz R v xs := by
  obtain ⟨hl, h⟩ := h
  rcases h with ⟨rfl, h0⟩ | ⟨g, cap, cur, rfl, hb, hh, hc, hm, hs', ht⟩
  · exact .inl ⟨none, 0, rfl, List.length_eq_zero_iff.1 h0⟩
  · by_cases h0 : xs.length = 0
    · exact .inl ⟨some ⟨g, 0, none⟩, cap, by rw [h0], List.length_eq_zero_iff.1 h0⟩
    · have hown : w.ownsRow base e sz (.slice (some ⟨g, 0, none⟩) xs.length cap) xs.length (xs.flatMap enc) := ⟨hl, .inr ⟨g, cap, cur, rfl, hb, hh, hc, hm, hs', ht⟩⟩
      have hg : g < w.heap.size := by
        rcases Nat.lt_or_ge g w.heap.size with q | q
        · exact q
        · rw [Array.getElem?_eq_none q] at hh; cases hh
      refine .inr ⟨g, 0, cap, rfl, by omega, hc, hm, hg, fun i hi => ⟨enc xs[i], he _, hR _ (List.getElem_mem hi), fun j hj => ?_⟩⟩
      have hlt : i * sz + j < xs.length * sz := by
        have : (i + 1) * sz ≤ xs.length * sz := Nat.mul_le_mul_right _ hi
        rw [Nat.succ_mul] at this
        omega
      rw [Nat.zero_add, hown.cellAt _ hlt]
      exact flat_at he xs i j hi hj
def encI (x : Int) : List Value := [.int .i64 x]
theorem ints_of_own {w : World} {base : Nat} {e : TypeId} {v : Value} {xs : List Int} (hR : ∀ x ∈ xs, I64 x) (h : w.ownsRow base e 1 v xs.length (xs.flatMap encI)) : SlAt w 1 RInt v xs :=
  slAt_of_own (by omega) (fun _ => rfl) (fun x hx => ⟨rfl, hR x hx⟩) h
theorem SlAt.all {α : Type} {w : World} {sz : Nat} {R : List Value → α → Prop} {v : Value} {xs : List α} (h : SlAt w sz R v xs) (x : α) (hx : x ∈ xs) : ∃ cs, R cs x := by
  rcases h with ⟨a, cap, hv, rfl⟩ | ⟨b, off, cap, hv, h0, h1, h2, h3, h4⟩
  · simp at hx
  · obtain ⟨i, hi, rfl⟩ := List.mem_iff_getElem.1 hx
    obtain ⟨cs, _, r, _⟩ := h4 i hi
    exact ⟨cs, r⟩
theorem ints64 {w : World} {v : Value} {xs : List Int} (h : SlAt w 1 RInt v xs) (x : Int) (hx : x ∈ xs) : I64 x := by
  obtain ⟨cs, _, h⟩ := h.all x hx; exact h
theorem nods64 {w : World} {v : Value} {xs : List Nod} (h : SlAt w 5 RNod v xs) (x : Nod) (hx : x ∈ xs) : I64 x.an ∧ I64 x.bd ∧ I64 x.ls ∧ I64 x.mr := by
  obtain ⟨cs, _, h⟩ := h.all x hx; exact h
theorem own_snoc {w : World} {B : Nat} {e : TypeId} {v : Value} {xs : List Int} {x : Int} (h : w.ownsRow B e 1 v (xs.length + 1) (xs.flatMap encI ++ [.int .i64 x])) : w.ownsRow B e 1 v (xs ++ [x]).length ((xs ++ [x]).flatMap encI) := by
  have e1 : (xs ++ [x]).flatMap encI = xs.flatMap encI ++ [.int .i64 x] := by simp [encI]
  rw [e1, List.length_append]
  exact h
theorem info_int : (Tryd.prog.info? 3).map (fun i => (i.zero, i.size, i.bytes)) = some (some (.int .i64 0), 1, 8) := by kernel_rfl
theorem size_alloc (w : World) (o : Obj) : (w.alloc o).heap.size = w.heap.size + 1 := by show (w.heap.push o).size = _; rw [Array.size_push]
theorem one_cell (w : World) (u : Value) (e : TypeId) : ∀ j x, [u][j]? = some x → (w.alloc (.cells #[u] e)).cell? ((⟨w.heap.size, 0, none⟩ : Addr).add j) = some x := by
  intro j x hj
  match j, hj with
  | 0, hj =>
    simp at hj; subst hj
    have := World.cell?_alloc_at (w := w) #[u] e w.heap.size 0 rfl
    simp [Addr.add, this]
end Go.Proofs.YtbciennhcdabeaaDoor
namespace Go.Proofs.YtbciennhcdabeaaDoor
set_option linter.unusedVariables false
set_option linter.unusedSimpArgs false
open Go.ChangeShapes Go.WideShapes Go.ChangeAt Go.RowKit

theorem size_le_push_ (w : World) (o : Obj) : w.heap.size ≤ (w.alloc o).heap.size := by show _ ≤ (w.heap.push o).size; rw [Array.size_push]; omega
theorem two_new (w : World) (c d : Array Value) (e e' : TypeId) :
    ((w.alloc (.cells c e)).alloc (.cells d e')).heap.size = w.heap.size + 2 ∧ (∀ j, ((w.alloc (.cells c e)).alloc (.cells d e')).cell? ⟨w.heap.size, j, none⟩ = c[j]?) ∧ (∀ j, ((w.alloc (.cells c e)).alloc (.cells d e')).cell? ⟨w.heap.size + 1, j, none⟩ = d[j]?) ∧
    (∀ j, ((w.alloc (.cells c e)).alloc (.cells d e')).frozen? ⟨w.heap.size, j, none⟩ = false) ∧ (∀ j, ((w.alloc (.cells c e)).alloc (.cells d e')).frozen? ⟨w.heap.size + 1, j, none⟩ = false) := by
  have hs := size_alloc w (.cells c e)
  have hB : Below (w.alloc (.cells c e)).heap.size (w.alloc (.cells c e)) ((w.alloc (.cells c e)).alloc (.cells d e')) := (Below.refl _ _).alloc (Nat.le_refl _) _
  refine ⟨by rw [size_alloc, hs], fun j => ?_, fun j => World.cell?_alloc_at _ _ _ _ hs.symm, fun j => ?_, fun j => ?_⟩
  · rw [hB.cell (p := ⟨w.heap.size, j, none⟩) (by rw [hs]; exact Nat.lt_succ_self _)]
    exact World.cell?_alloc_at _ _ _ _ rfl
  · rw [hB.frozen (p := ⟨w.heap.size, j, none⟩) (by rw [hs]; exact Nat.lt_succ_self _)]
    exact World.frozen?_alloc_at _ _ _ _ rfl
  · exact World.frozen?_alloc_at _ _ _ _ hs.symm
theorem own_shape {w : World} {B n sz : Nat} {e : TypeId} {v : Value} {xs : List Value} (h : w.ownsRow B e sz v n xs) : ∃ a cap, v = .slice a n cap := by
  rcases h.2 with ⟨rfl, rfl⟩ | ⟨g, cap, cur, rfl, _⟩
  · exact ⟨none, 0, rfl⟩
  · exact ⟨_, cap, rfl⟩
theorem ownsRow_base {w : World} {B C n sz : Nat} {e : TypeId} {v : Value} {xs : List Value} (hC : C ≤ B) (h : w.ownsRow B e sz v n xs) : w.ownsRow C e sz v n xs := by
  obtain ⟨h1, h2⟩ := h
  refine ⟨h1, ?_⟩
  rcases h2 with h2 | ⟨g, cap, cur, hv, hg, r⟩
  · exact .inl h2
  · exact .inr ⟨g, cap, cur, hv, by omega, r⟩
theorem encI_len (xs : List Int) : (xs.flatMap encI).length = xs.length := by induction xs <;> simp_all [encI]
theorem encI_one (xs : List Int) : ∀ u ∈ xs.flatMap encI, u.oneCell' = true := by
  intro u hu
  obtain ⟨x, _, hx⟩ := List.mem_flatMap.1 hu
  simp [encI] at hx
  subst hx
  rfl
theorem take_snoc {α : Type} (xs : List α) (k : Nat) (h : k < xs.length) : xs.take (k + 1) = xs.take k ++ [xs[k]] := by
  rw [List.take_succ_eq_append_getElem h]
theorem elemInt {w : World} {aa : Option Addr} {n ca : Nat} {xs : List Int} (h : SlAt w 1 RInt (.slice aa n ca) xs) (k : Nat) (hk : k < xs.length) :
    ∃ b off, aa = some ⟨b, off, none⟩ ∧ b < w.heap.size ∧ w.cell? ⟨b, off + k, none⟩ = some (.int .i64 xs[k]) ∧ I64 xs[k] := by
  rcases h with ⟨a, cap, hv, rfl⟩ | ⟨b, off, cap, hv, h0, h1, h2, h3, h4⟩
  · simp at hk
  · simp only [Value.slice.injEq] at hv
    obtain ⟨p, q⟩ := intCell h4 k hk
    exact ⟨b, off, hv.1, h3, p, q⟩
theorem ferr_all {α : Type} (f : Nat → α → Int) : ∀ (xs : List α) (s : Nat), ferr f s xs = 0 → ∀ i (hi : i < xs.length), f (s + i) xs[i] = 0
  | [], _, _, i, hi => by simp at hi
  | x :: xs, s, h, 0, _ => by
    unfold ferr at h
    by_cases e : f s x = 0
    · simpa using e
    · rw [if_pos e] at h; exact absurd h e
  | x :: xs, s, h, i + 1, hi => by
    unfold ferr at h
    by_cases e : f s x = 0
    · rw [if_neg (by simpa using e)] at h
      have := ferr_all f xs (s + 1) h i (by simpa using hi)
      simp only [List.getElem_cons_succ]
      rw [show s + (i + 1) = s + 1 + i from by omega]
      exact this
    · rw [if_pos e] at h; exact absurd h e
theorem ansE_offs {a : Ans} (h : ansE a = 0) : a.offs.length ≤ 6 ∧ a.ck.nm.size ≤ 24 := by
  unfold ansE at h
  split at h
  · omega
  · split at h
    · omega
    · rename_i h2
      unfold ansBig at h2
      simp at h2
      omega
theorem five_below {w w1 : World} {b : Nat} (h : Below w.heap.size w w1) (hb : w.heap.size ≤ b) (v0 v1 v2 v3 v4 : Value) :
    Below w.heap.size w (((((w1.setCell ⟨b, 0, none⟩ v0).setCell ⟨b, 1, none⟩ v1).setCell ⟨b, 2, none⟩ v2).setCell ⟨b, 3, none⟩ v3).setCell ⟨b, 4, none⟩ v4) :=
  ((((h.setCell hb _).setCell hb _).setCell hb _).setCell hb _).setCell hb _
theorem five_own {w1 : World} {B b n sz : Nat} {e : TypeId} {v : Value} {xs : List Value} (h : w1.ownsRow B e sz v n xs) (hb : b < B) (v0 v1 v2 v3 v4 : Value) :
    (((((w1.setCell ⟨b, 0, none⟩ v0).setCell ⟨b, 1, none⟩ v1).setCell ⟨b, 2, none⟩ v2).setCell ⟨b, 3, none⟩ v3).setCell ⟨b, 4, none⟩ v4).ownsRow B e sz v n xs :=
  ownsRow_setCell_below (ownsRow_setCell_below (ownsRow_setCell_below (ownsRow_setCell_below (ownsRow_setCell_below h hb _) hb _) hb _) hb _) hb _
theorem cells_new (w : World) (l : List Value) (e : TypeId) : ∀ j u, l[j]? = some u → (w.alloc (.cells l.toArray e)).cell? ((⟨w.heap.size, 0, none⟩ : Addr).add j) = some u := by
  intro j u hj
  rw [add_one_, Nat.zero_add, World.cell?_alloc_at _ _ _ _ rfl]
  simpa using hj
theorem own_snocG {α : Type} {w : World} {B sz : Nat} {e : TypeId} {v : Value} {enc : α → List Value} {xs : List α} {x : α} (h : w.ownsRow B e sz v (xs.length + 1) (xs.flatMap enc ++ enc x)) : w.ownsRow B e sz v (xs ++ [x]).length ((xs ++ [x]).flatMap enc) := by
  have e1 : (xs ++ [x]).flatMap enc = xs.flatMap enc ++ enc x := by simp
  rw [e1, List.length_append]
  exact h
theorem cells_at (w : World) (l : List Value) (c : Array Value) (e : TypeId) (n : Nat) (hn : n = w.heap.size) (hc : l = c.toList) : ∀ j u, l[j]? = some u → (w.alloc (.cells c e)).cell? ((⟨n, 0, none⟩ : Addr).add j) = some u := by
  intro j u hj
  subst hn hc
  rw [add_one_, Nat.zero_add, World.cell?_alloc_at _ _ _ _ rfl]
  simpa using hj
theorem append_keep {w wA w1 : World} {B sz n : Nat} {e : TypeId} {v : Value} {xs : List Value} (hown : w.ownsRow B e sz v n xs) (hA : Below B w wA) (hBz : B ≤ w.heap.size) (hgrow : wA.grownBy w1 v.ownBlock) : Below B w w1 :=
  hA.trans ((Below.refl B wA).grown hgrow (Nat.le_trans hBz hA.size) (fun g hg => (hown.lt g hg).1))
theorem below_alloc2 {B : Nat} {w : World} (h : B ≤ w.heap.size) (o o' : Obj) : Below B w ((w.alloc o).alloc o') := ((Below.refl B w).alloc h _).alloc (Nat.le_trans h (size_le_push_ w o)) _
theorem cell_keep {B o : Nat} {w w1 : World} {u : Value} (h : Below B w w1) (hz : B ≤ w.heap.size) (ho : o < B) (hc : w.cell? ⟨o, 0, none⟩ = some u) (hf : w.frozen? ⟨o, 0, none⟩ = false) : w1.cell? ⟨o, 0, none⟩ = some u ∧ w1.frozen? ⟨o, 0, none⟩ = false ∧ o < w1.heap.size :=
  ⟨(h.cell (p := ⟨o, 0, none⟩) ho).trans hc, (h.frozen (p := ⟨o, 0, none⟩) ho).trans hf, by have := h.size; omega⟩
theorem ownsRow_below {w w' : World} {B C n sz : Nat} {e : TypeId} {v : Value} {xs : List Value} (h : w.ownsRow B e sz v n xs) (hb : Below C w w') (hC : w.heap.size ≤ C) : w'.ownsRow B e sz v n xs := by
  obtain ⟨h1, h2⟩ := h
  refine ⟨h1, ?_⟩
  rcases h2 with h2 | ⟨g, cap, cur, hv, hg, hh, r⟩
  · exact .inl h2
  · refine .inr ⟨g, cap, cur, hv, hg, ?_, r⟩
    have hlt : g < w.heap.size := by
      rcases Nat.lt_or_ge g w.heap.size with q | q
      · exact q
      · rw [Array.getElem?_eq_none q] at hh; cases hh
    rw [hb.block g (by omega)]
    exact hh
theorem own_apart {w : World} {B B' n n' sz sz' : Nat} {e e' : TypeId} {v v' : Value} {xs xs' : List Value} (h : w.ownsRow B e sz v n xs) (h' : w.ownsRow B' e' sz' v' n' xs') (hne : e ≠ e') : v.ownBlock = none ∨ v.ownBlock ≠ v'.ownBlock := by
  rcases h.2 with ⟨rfl, _⟩ | ⟨g, cap, cur, rfl, _, hh, _⟩
  · exact .inl rfl
  · rcases h'.2 with ⟨rfl, _⟩ | ⟨g', cap', cur', rfl, _, hh', _⟩
    · exact .inr (by simp [Value.ownBlock])
    · right
      intro e1
      have e2 : g = g' := by simpa [Value.ownBlock] using e1
      subst e2
      rw [hh] at hh'
      simp at hh'
      exact hne hh'.2
theorem grown_cell {w w' : World} {row : Option Nat} (h : w.grownBy w' row) {b o : Nat} (hb : b < w.heap.size) (hne : some b ≠ row) : w'.cell? ⟨b, o, none⟩ = w.cell? ⟨b, o, none⟩ :=
  World.cell?_of_block (a := ⟨b, o, none⟩) (h.block b hb hne)
theorem i64_of {x : Int} (h1 : -9223372036854775808 ≤ x) (h2 : x ≤ 9223372036854775807) : I64 x := by
  show (Lit.int .i64 x).wf = true
  simp [Lit.wf, IntKind.min, IntKind.max, IntKind.signed, IntKind.bits]
  omega
theorem i64_zero : I64 0 := i64_of (by omega) (by omega)
theorem i64_nat (n : Nat) (h : n ≤ 100000) : I64 (n : Int) := i64_of (by omega) (by omega)
end Go.Proofs.YtbciennhcdabeaaDoor
namespace Go.Proofs.YtbciennhcdabeaaDoor
set_option linter.unusedVariables false
set_option linter.unusedSimpArgs false
open Go.ChangeShapes Go.WideShapes Go.ChangeAt Go.RowKit

theorem wf64 (x : Int) : I64 (wrap64 x) := RowKit.wrap64_wf x
theorem size_le_alloc_ (w : World) (o : Obj) : w.heap.size ≤ (w.alloc o).heap.size := by show _ ≤ (w.heap.push o).size; rw [Array.size_push]; omega
end Go.Proofs.YtbciennhcdabeaaDoor
namespace Go.Proofs.YtbciennhcdabeaaDoor
set_option linter.unusedVariables false
set_option linter.unusedSimpArgs false
open Go.ChangeShapes Go.WideShapes Go.ChangeAt Go.RowKit

/-- from node i on, the number t comes to the leaf that bears the answer a. -/
inductive Lf (ns : List Nod) (t : Int) : Nat → Int → Prop
  | leaf (i : Nat) (h : i < ns.length) (e : ns[i].lf = true) : Lf ns t i ns[i].an
  | less (i k : Nat) (a : Int) (h : i < ns.length) (e : ns[i].lf = false) (c : t < ns[i].bd) (hk : ns[i].ls = k) (hl : k < i) (r : Lf ns t k a) : Lf ns t i a
  | more (i k : Nat) (a : Int) (h : i < ns.length) (e : ns[i].lf = false) (c : ns[i].bd ≤ t) (hk : ns[i].mr = k) (hl : k < i) (r : Lf ns t k a) : Lf ns t i a
theorem lf_ex (ns : List Nod) (m t : Int) (ok : ∀ i (h : i < ns.length), nodE m i ns[i] = 0) : ∀ (N i : Nat), i < N → i < ns.length → ∃ a : Int, Lf ns t i a ∧ 0 ≤ a ∧ a < m := by
  intro N
  induction N with
  | zero => intro i h; omega
  | succ N ih =>
    intro i h hi
    have hok := ok i hi
    have hc := nodE_cases m i ns[i]
    cases e : ns[i].lf
    · have : 0 ≤ ns[i].ls ∧ ns[i].ls < i ∧ 0 ≤ ns[i].mr ∧ ns[i].mr < i := by
        rw [e, hok] at hc
        simp at hc
        omega
      by_cases c : t < ns[i].bd
      · obtain ⟨a, ha, h1, h2⟩ := ih ns[i].ls.toNat (by omega) (by omega)
        exact ⟨a, .less i _ a hi e c (by omega) (by omega) ha, h1, h2⟩
      · obtain ⟨a, ha, h1, h2⟩ := ih ns[i].mr.toNat (by omega) (by omega)
        exact ⟨a, .more i _ a hi e (by omega) (by omega) (by omega) ha, h1, h2⟩
    · refine ⟨_, .leaf i hi e, ?_⟩
      rw [e, hok] at hc
      simp at hc
      omega
theorem below_nx {w w1 w2 : World} (h : Below w.heap.size w w1) (g : Below w1.heap.size w1 w2) : Below w.heap.size w w2 :=
  h.trans (g.mono h.size)
end Go.Proofs.YtbciennhcdabeaaDoor
namespace Go.Proofs.YtbciennhcdabeaaDoor
set_option linter.unusedVariables false
set_option linter.unusedSimpArgs false
open Go.ChangeShapes Go.WideShapes Go.ChangeAt Go.RowKit

/-- node y stands at place i. -/
def NodAt (ns : List Nod) (y : Nod) (i : Nat) : Prop := ∃ h : i < ns.length, ns[i] = y
open Classical in
/-- the least place of node y. -/
noncomputable def rank (ns : List Nod) (y : Nod) : Nat := if h : ∃ n, NodAt ns y n ∧ ∀ k, k < n → ¬ NodAt ns y k then h.choose else 0
theorem least {p : Nat → Prop} : ∀ n, p n → ∃ m, (p m ∧ ∀ k, k < m → ¬ p k) ∧ m ≤ n := by
  intro n
  induction n using Nat.strongRecOn with
  | ind n ih =>
    intro hn
    by_cases h : ∃ k, k < n ∧ p k
    · obtain ⟨k, hk, hp⟩ := h
      obtain ⟨m, hm, hle⟩ := ih k hk hp
      exact ⟨m, hm, by omega⟩
    · exact ⟨n, ⟨hn, fun k hk hp => h ⟨k, hk, hp⟩⟩, Nat.le_refl _⟩
theorem rank_le (ns : List Nod) (y : Nod) (i : Nat) (h : NodAt ns y i) : rank ns y ≤ i ∧ NodAt ns y (rank ns y) := by
  obtain ⟨m, hm, hle⟩ := least i h
  have hex : ∃ n, NodAt ns y n ∧ ∀ k, k < n → ¬ NodAt ns y k := ⟨m, hm⟩
  have e : rank ns y = hex.choose := by unfold rank; rw [dif_pos hex]
  have hs := hex.choose_spec
  rw [e]
  refine ⟨?_, hs.1⟩
  by_cases hl : i < hex.choose
  · exact absurd h (hs.2 i hl)
  · omega
/-- a step of the walk goes down. -/
theorem rank_lt (ns : List Nod) (m : Int) (ok : ∀ i (h : i < ns.length), nodE m i ns[i] = 0) (y z : Nod) (i k : Nat) (hy : NodAt ns y i) (hz : NodAt ns z k) (hf : y.lf = false) (hk : y.ls = k ∨ y.mr = k) : rank ns z < rank ns y := by
  obtain ⟨_, hr, er⟩ := rank_le ns y i hy
  have h1 := (rank_le ns z k hz).1
  have hok := ok _ hr
  have hc := nodE_cases m (rank ns y) ns[rank ns y]
  rw [hok, er, hf] at hc
  simp at hc
  omega
def asB : Option Value → Bool
  | some (.bool b) => b
  | _ => false
def asI : Option Value → Int
  | some (.int _ n) => n
  | _ => 0
def boxN (x : Nat) (wr : World) : Nod := ⟨asB (wr.cell? ⟨x, 0, none⟩), asI (wr.cell? ⟨x, 1, none⟩), asI (wr.cell? ⟨x, 2, none⟩), asI (wr.cell? ⟨x, 3, none⟩), asI (wr.cell? ⟨x, 4, none⟩)⟩
theorem lf_step (ns : List Nod) (t a : Int) (k : Nat) (y : Nod) (hL : Lf ns t k a) (hy : NodAt ns y k) :
    (y.lf = true ∧ y.an = a) ∨ (y.lf = false ∧ t < y.bd ∧ ∃ j : Nat, y.ls = j ∧ j < k ∧ Lf ns t j a) ∨ (y.lf = false ∧ y.bd ≤ t ∧ ∃ j : Nat, y.mr = j ∧ j < k ∧ Lf ns t j a) := by
  obtain ⟨h, rfl⟩ := hy
  cases hL with
  | leaf i h2 e => exact .inl ⟨e, rfl⟩
  | less i j a h2 e c hk hl r => exact .inr (.inl ⟨e, c, j, hk, hl, r⟩)
  | more i j a h2 e c hk hl r => exact .inr (.inr ⟨e, c, j, hk, hl, r⟩)
end Go.Proofs.YtbciennhcdabeaaDoor
namespace Go.Proofs.YtbciennhcdabeaaDoor
set_option linter.unusedVariables false
set_option linter.unusedSimpArgs false
open Go.ChangeShapes Go.WideShapes Go.ChangeAt Go.RowKit

end Go.Proofs.YtbciennhcdabeaaDoor
namespace Go.Proofs.YtbciennhcdabeaaDoor
set_option linter.unusedVariables false
set_option linter.unusedSimpArgs false
open Go.ChangeShapes Go.WideShapes Go.ChangeAt Go.RowKit

theorem clone_cells {w : World} {b off : Nat} {xs : List Int} (h : ∀ (i : Nat) (h : i < xs.length), w.cell? ⟨b, off + i, none⟩ = some (.int .i64 xs[i]) ∧ I64 xs[i]) (hb : b < w.heap.size) (o : Obj) :
    ∀ j u, (xs.flatMap encI)[j]? = some u → (w.alloc o).cell? ((⟨b, off, none⟩ : Addr).add j) = some u := by
  intro j u hj
  have hl : (xs.flatMap encI).length = xs.length := by
    have : ∀ l : List Int, (l.flatMap encI).length = l.length := fun l => by induction l <;> simp_all [encI]
    exact this xs
  have hlt : j < xs.length := by have := (List.getElem?_eq_some_iff.1 hj).1; omega
  have h1 := flat_at (enc := encI) (sz := 1) (fun _ => rfl) xs j 0 hlt (by omega)
  rw [Nat.mul_one, Nat.add_zero, hj] at h1
  have hB : Below w.heap.size w (w.alloc o) := (Below.refl _ _).alloc (Nat.le_refl _) _
  rw [add_one_, hB.cell (p := ⟨b, _, none⟩) hb, (h j hlt).1, h1]
  rfl
end Go.Proofs.YtbciennhcdabeaaDoor
namespace Go.Proofs.YtbciennhcdabeaaDoor
set_option linter.unusedVariables false
set_option linter.unusedSimpArgs false
open Go.ChangeShapes Go.WideShapes Go.ChangeAt Go.RowKit

end Go.Proofs.YtbciennhcdabeaaDoor
namespace Go.Proofs.YtbciennhcdabeaaDoor
set_option linter.unusedVariables false
set_option linter.unusedSimpArgs false
open Go.ChangeShapes Go.WideShapes Go.ChangeAt Go.RowKit

theorem frs_good {f : Frs} (h : frsE f = 0) : 0 < f.nodes.length ∧ f.nodes.length ≤ 8000 ∧ f.answers.length ≤ 2000 ∧ (∀ i (hi : i < f.answers.length), ansE f.answers[i] = 0) ∧ (∀ i (hi : i < f.nodes.length), nodE f.answers.length (i : Nat) f.nodes[i] = 0) := by
  unfold frsE at h
  by_cases h0 : f.nodes.length = 0
  · rw [if_pos h0] at h; omega
  · rw [if_neg h0] at h
    by_cases h1 : 8000 < f.nodes.length ∨ 2000 < f.answers.length
    · rw [if_pos h1] at h; omega
    · rw [if_neg h1] at h
      by_cases h2 : anssE f.answers = 0
      · rw [if_neg (by simpa using h2)] at h
        refine ⟨by omega, by omega, by omega, fun i hi => ?_, fun i hi => ?_⟩
        · have := ferr_all _ _ _ h2 i hi; exact this
        · have := ferr_all _ _ _ h i hi; simpa using this
      · rw [if_pos h2] at h; exact absurd h h2
/-- a world in which the two boxes of Eval stand: the forest's and the result's. -/
structure EvAt (w w1 : World) (vn va : Value) : Prop where
  q0 : w1.cell? ⟨w.heap.size, 0, none⟩ = some vn
  q1 : w1.cell? ⟨w.heap.size, 1, none⟩ = some va
  r0 : w1.cell? ⟨w.heap.size + 1, 0, none⟩ = some (.int .i64 0)
  r1 : w1.cell? ⟨w.heap.size + 1, 1, none⟩ = some (.bool false)
  r2 : w1.cell? ⟨w.heap.size + 1, 2, none⟩ = some (.string ⟨#[]⟩)
  r3 : w1.cell? ⟨w.heap.size + 1, 3, none⟩ = some (.slice none 0 0)
  r4 : w1.cell? ⟨w.heap.size + 1, 4, none⟩ = some (.int .i64 0)
  f1 : ∀ j, w1.frozen? ⟨w.heap.size + 1, j, none⟩ = false
  hz : w.heap.size + 1 < w1.heap.size
  hb : Below w.heap.size w w1
theorem EvAt.below {w w1 w2 : World} {vn va : Value} (h : EvAt w w1 vn va) (g : Below w1.heap.size w1 w2) : EvAt w w2 vn va := by
  obtain ⟨hc, hf⟩ := bcell g
  have hz := h.hz
  have hz0 : w.heap.size < w1.heap.size := by omega
  exact ⟨(hc _ _ hz0).trans h.q0, (hc _ _ hz0).trans h.q1, (hc _ _ hz).trans h.r0, (hc _ _ hz).trans h.r1, (hc _ _ hz).trans h.r2, (hc _ _ hz).trans h.r3, (hc _ _ hz).trans h.r4, fun j => (hf _ _ hz).trans (h.f1 j), Nat.lt_of_lt_of_le hz g.size, h.hb.trans (g.mono h.hb.size)⟩
end Go.Proofs.YtbciennhcdabeaaDoor
namespace Go.Proofs.YtbciennhcdabeaaDoor
set_option linter.unusedVariables false
set_option linter.unusedSimpArgs false
open Go.ChangeShapes Go.WideShapes Go.ChangeAt Go.RowKit

theorem EvAt.drew {w w1 : World} {vn va : Value} (h : EvAt w w1 vn va) : EvAt w w1.drew vn va :=
  ⟨h.q0, h.q1, h.r0, h.r1, h.r2, h.r3, h.r4, h.f1, h.hz, h.hb.drew⟩
end Go.Proofs.YtbciennhcdabeaaDoor
namespace Go.Proofs.YtbciennhcdabeaaDoor
set_option linter.unusedVariables false
set_option linter.unusedSimpArgs false
open Go.ChangeShapes Go.WideShapes Go.ChangeAt Go.RowKit

def AnsV (A : Ans) (v : Value) : Value := .agg #[.int .i64 A.ck.off, .bool A.ck.sav, .string A.ck.nm, v, .int .i64 A.jump]
theorem SlAt_nil (w : World) : SlAt w 1 RInt (.slice none 0 0) [] := .inl ⟨none, 0, rfl, rfl⟩
end Go.Proofs.YtbciennhcdabeaaDoor
namespace Go.Proofs.YtbciennhcdabeaaDoor
set_option linter.unusedVariables false
set_option linter.unusedSimpArgs false
open Go.ChangeShapes Go.WideShapes Go.ChangeAt Go.RowKit

structure Pc where
  fr : Int
  an : Int
def leafN (a : Int) : Nod := ⟨true, a, 0, 0, 0⟩
def askN (b l m : Int) : Nod := ⟨false, 0, b, l, m⟩
def chN : List Pc → List Nod
  | [] => []
  | [p] => [leafN p.an]
  | p :: q :: r => chN (q :: r) ++ [leafN p.an, askN q.fr (chN (q :: r)).length ((chN (q :: r)).length - 1 : Nat)]
theorem chN_cons (p q : Pc) (r : List Pc) : chN (p :: q :: r) = chN (q :: r) ++ [leafN p.an, askN q.fr (chN (q :: r)).length ((chN (q :: r)).length - 1 : Nat)] := rfl
theorem chN_len : ∀ (p : Pc) (r : List Pc), (chN (p :: r)).length = 2 * r.length + 1
  | p, [] => rfl
  | p, q :: r => by rw [chN_cons, List.length_append, chN_len q r]; simp; omega
theorem Lf.append {ns : List Nod} (ms : List Nod) {t : Int} {i : Nat} {a : Int} (h : Lf ns t i a) : Lf (ns ++ ms) t i a := by
  induction h with
  | leaf i h e =>
    have e1 : (ns ++ ms)[i]'(by rw [List.length_append]; omega) = ns[i] := List.getElem_append_left h
    have := Lf.leaf (ns := ns ++ ms) (t := t) i (by rw [List.length_append]; omega) (by rw [e1]; exact e)
    rw [e1] at this
    exact this
  | less i k a h e c hk hl r ih =>
    have e1 : (ns ++ ms)[i]'(by rw [List.length_append]; omega) = ns[i] := List.getElem_append_left h
    exact Lf.less i k a (by rw [List.length_append]; omega) (by rw [e1]; exact e) (by rw [e1]; exact c) (by rw [e1]; exact hk) hl ih
  | more i k a h e c hk hl r ih =>
    have e1 : (ns ++ ms)[i]'(by rw [List.length_append]; omega) = ns[i] := List.getElem_append_left h
    exact Lf.more i k a (by rw [List.length_append]; omega) (by rw [e1]; exact e) (by rw [e1]; exact c) (by rw [e1]; exact hk) hl ih
theorem chN_last (p q : Pc) (r : List Pc) : ∃ h : 2 * r.length + 2 < (chN (p :: q :: r)).length, (chN (p :: q :: r))[2 * r.length + 2] = askN q.fr (2 * r.length + 1 : Nat) (2 * r.length : Nat) := by
  refine ⟨by rw [chN_len, List.length_cons]; omega, ?_⟩
  have hl := chN_len q r
  simp only [chN_cons]
  rw [List.getElem_append_right (by rw [hl]; omega)]
  simp only [hl, show 2 * r.length + 2 - (2 * r.length + 1) = 1 from by omega]
  rfl
theorem chN_prev (p q : Pc) (r : List Pc) : ∃ h : 2 * r.length + 1 < (chN (p :: q :: r)).length, (chN (p :: q :: r))[2 * r.length + 1] = leafN p.an := by
  refine ⟨by rw [chN_len, List.length_cons]; omega, ?_⟩
  have hl := chN_len q r
  simp only [chN_cons]
  rw [List.getElem_append_right (by rw [hl]; omega)]
  simp only [hl, Nat.sub_self]
  rfl
/-- which piece a chain tells. -/
theorem chain_lf (t : Int) : ∀ (ps : List Pc) (i : Nat) (h : i < ps.length), (∀ j (hj : j < ps.length), i < j → t < ps[j].fr) → (∀ j (hj : j < ps.length), 1 ≤ j → j ≤ i → ps[j].fr ≤ t) → Lf (chN ps) t ((chN ps).length - 1) ps[i].an
  | [], i, h, _, _ => by simp at h
  | [p], i, h, _, _ => by
    obtain rfl : i = 0 := by simpa using h
    exact Lf.leaf (ns := chN [p]) 0 (by simp [chN]) rfl
  | p :: q :: r, i, h, h1, h2 => by
    obtain ⟨hl, el⟩ := chN_last p q r
    obtain ⟨hp, ep⟩ := chN_prev p q r
    have hlen := chN_len p (q :: r)
    rw [show (chN (p :: q :: r)).length - 1 = 2 * r.length + 2 from by rw [hlen, List.length_cons]; omega]
    match i, h, h1, h2 with
    | 0, h, h1, h2 =>
      have hq := h1 1 (by simp) (by omega)
      refine Lf.less _ (2 * r.length + 1) _ hl (by rw [el]; rfl) (by rw [el]; exact hq) (by rw [el]; rfl) (by omega) ?_
      have := Lf.leaf (ns := chN (p :: q :: r)) (t := t) (2 * r.length + 1) hp (by rw [ep]; rfl)
      rw [ep] at this
      exact this
    | i + 1, h, h1, h2 =>
      have hq := h2 1 (by simp) (by omega) (by omega)
      have ih := chain_lf t (q :: r) i (by simpa using h) (fun j hj hij => h1 (j + 1) (by simpa using hj) (by omega)) (fun j hj a b => h2 (j + 1) (by simpa using hj) (by omega) (by omega))
      rw [show (chN (q :: r)).length - 1 = 2 * r.length from by rw [chN_len]; omega] at ih
      refine Lf.more _ (2 * r.length) _ hl (by rw [el]; rfl) (by rw [el]; exact hq) (by rw [el]; rfl) (by omega) ?_
      rw [chN_cons]
      exact ih.append _
theorem chN_good (m : Int) : ∀ (ps : List Pc), (∀ p ∈ ps, 0 ≤ p.an ∧ p.an < m) → ∀ i (hi : i < (chN ps).length), nodE m (i : Nat) (chN ps)[i] = 0
  | [], _, i, hi => by simp [chN] at hi
  | [p], h, i, hi => by
    obtain rfl : i = 0 := by simpa [chN] using hi
    have := h p (by simp)
    show nodE m _ (leafN p.an) = 0
    unfold nodE leafN
    rw [if_pos rfl, if_neg (by dsimp only; omega), if_neg (by simp)]
  | p :: q :: r, h, i, hi => by
    have hl := chN_len q r
    have hL := chN_len p (q :: r)
    by_cases h1 : i < (chN (q :: r)).length
    · have ih := chN_good m (q :: r) (fun x hx => h x (by simp [List.mem_cons] at hx ⊢; right; exact hx)) i h1
      have e : (chN (p :: q :: r))[i] = (chN (q :: r))[i] := by simp only [chN_cons]; exact List.getElem_append_left h1
      rw [e]; exact ih
    · by_cases h2 : i = 2 * r.length + 1
      · subst h2
        obtain ⟨hp, ep⟩ := chN_prev p q r
        have := h p (by simp)
        rw [ep]
        unfold nodE leafN
        rw [if_pos rfl, if_neg (by dsimp only; omega), if_neg (by simp)]
      · have h3 : i = 2 * r.length + 2 := by rw [hL] at hi; rw [hl] at h1; simp at hi; omega
        subst h3
        obtain ⟨hp, ep⟩ := chN_last p q r
        rw [ep]
        unfold nodE askN
        rw [if_neg (by simp), if_neg (by simp), if_neg (by dsimp only; omega)]
end Go.Proofs.YtbciennhcdabeaaDoor
namespace Go.Proofs.YtbciennhcdabeaaDoor
set_option linter.unusedVariables false
set_option linter.unusedSimpArgs false
open Go.ChangeShapes Go.WideShapes Go.ChangeAt Go.RowKit

theorem pick_bd (a b : Int) (h : 0 < b) : 0 ≤ a % b ∧ a % b < b := ⟨Int.emod_nonneg _ (by omega), Int.emod_lt_of_pos _ h⟩
def pkv (n many : Int) : Int := (if n < 0 then -(n + 1) else n) % many
theorem pkv_bd (n many : Int) (h : 0 < many) : 0 ≤ pkv n many ∧ pkv n many < many := pick_bd _ _ h
theorem picked_v (n many : Int) (w : World) (hn : (Lit.int .i64 n).wf = true) (h1 : 1 ≤ many) (h2 : many ≤ 9000000000) :
    Calls Tryd.prog 9 #[.int .i64 n, .int .i64 many] w fun e w' => e = .returned (.int .i64 (pkv n many)) ∧ w = w' := by
  obtain ⟨b1, b2⟩ := bounds_i64 hn
  clear hn
  by_cases h : n < 0
  · have hp : -(n + 1).tmod many = pkv n many := by
      unfold pkv; rw [if_pos h, ← Int.tmod_eq_emod_of_nonneg (by omega), Int.neg_tmod]
    have HP := Lib.hid hp
    clear hp
    go_enter Tryd.func9, Tryd.ntmps9
    go_wp2
    go_ret
    exact ⟨ret_int HP.out, rfl⟩
  · have hp : n % many = pkv n many := by unfold pkv; rw [if_neg h]
    have HP := Lib.hid hp
    clear hp
    go_enter Tryd.func9, Tryd.ntmps9
    go_wp2
    go_ret
    exact ⟨ret_int HP.out, rfl⟩
end Go.Proofs.YtbciennhcdabeaaDoor
namespace Go.Proofs.YtbciennhcdabeaaDoor
set_option linter.unusedVariables false
set_option linter.unusedSimpArgs false
open Go.ChangeShapes Go.WideShapes Go.ChangeAt Go.RowKit

theorem chN_64Z : ∀ (ps : List Pc), ps.length ≤ 9000 → (∀ p ∈ ps, I64 p.fr ∧ I64 p.an) → ∀ n ∈ chN ps, I64 n.an ∧ I64 n.bd ∧ I64 n.ls ∧ I64 n.mr
  | [], _, _, n, hn => by simp [chN] at hn
  | [p], _, h, n, hn => by
    obtain rfl : n = leafN p.an := by simpa [chN] using hn
    exact ⟨(h p (by simp)).2, i64_zero, i64_zero, i64_zero⟩
  | p :: q :: r, hl, h, n, hn => by
    rw [chN_cons] at hn
    have hL := chN_len q r
    simp only [List.length_cons] at hl
    rcases List.mem_append.1 hn with h1 | h1
    · exact chN_64Z (q :: r) (by simp; omega) (fun x hx => h x (List.mem_cons_of_mem _ hx)) n h1
    · rcases List.mem_cons.1 h1 with rfl | h1
      · exact ⟨(h p (by simp)).2, i64_zero, i64_zero, i64_zero⟩
      · obtain rfl := List.mem_singleton.1 h1
        exact ⟨i64_zero, (h q (by simp)).1, i64_nat _ (by omega), i64_nat _ (by omega)⟩
def dIZ (t : Int) : DataW Unit := .lit (.int .i64 t)
theorem vzeroZ (w : World) : (zeroValue 3).run Tryd.prog w = .ok (.int .i64 0) w := by kernel_rfl
theorem pelZ (t : Int) (h : I64 t) : plainElem Tryd.prog 3 (.int .i64 t) = some (dIZ t, []) := by
  unfold plainElem
  simp only [Tryd.underlying3]
  have h' : (Lit.int .i64 t).wf = true := h
  simp [h', dIZ]
theorem dI_injZ {a c : Int} (h : dIZ a = .lit (.int .i64 c)) : c = a := by
  unfold dIZ at h
  simp at h
  exact h.symm
end Go.Proofs.YtbciennhcdabeaaDoor
namespace Go.Proofs.YtbciennhcdabeaaDoor
set_option linter.unusedVariables false
set_option linter.unusedSimpArgs false
open Go.ChangeShapes Go.WideShapes Go.ChangeAt Go.RowKit

def encN (x : Nod) : List Value := [.bool x.lf, .int .i64 x.an, .int .i64 x.bd, .int .i64 x.ls, .int .i64 x.mr]
def encP (x : Pc) : List Value := [.int .i64 x.fr, .int .i64 x.an]
def RPc (cs : List Value) (x : Pc) : Prop := cs = encP x
theorem encN_one (x : Nod) : ∀ u ∈ encN x, u.oneCell' = true := by
  intro u hu
  simp [encN] at hu
  rcases hu with rfl | rfl | rfl | rfl | rfl <;> rfl
theorem encP_one (x : Pc) : ∀ u ∈ encP x, u.oneCell' = true := by
  intro u hu
  simp [encP] at hu
  rcases hu with rfl | rfl <;> rfl
end Go.Proofs.YtbciennhcdabeaaDoor
namespace Go.Proofs.YtbciennhcdabeaaDoor
set_option linter.unusedVariables false
set_option linter.unusedSimpArgs false
open Go.ChangeShapes Go.WideShapes Go.ChangeAt Go.RowKit

theorem elemPc {w : World} {aa : Option Addr} {n ca : Nat} {xs : List Pc} (h : SlAt w 2 RPc (.slice aa n ca) xs) (k : Nat) (hk : k < xs.length) :
    ∃ b off, aa = some ⟨b, off, none⟩ ∧ b < w.heap.size ∧ (w.cell? ⟨b, off + k * 2, none⟩ = some (.int .i64 xs[k].fr) ∧ w.cell? ⟨b, off + k * 2 + 1, none⟩ = some (.int .i64 xs[k].an)) := by
  rcases h with ⟨a, cap, hv, rfl⟩ | ⟨b, off, cap, hv, h0, h1, h2, h3, h4⟩
  · simp at hk
  · obtain ⟨cs, _, rfl, c3⟩ := h4 k hk
    simp only [Value.slice.injEq] at hv
    exact ⟨b, off, hv.1, h3, ⟨c3 0 (by omega), c3 1 (by omega)⟩⟩
theorem drop_two {α : Type} (xs : List α) (j : Nat) (h : j + 1 < xs.length) : xs.drop j = xs[j] :: xs[j + 1] :: xs.drop (j + 2) := by
  rw [List.drop_eq_getElem_cons (by omega), List.drop_eq_getElem_cons (by omega)]
theorem chN_drop (ps : List Pc) (j : Nat) (h : j + 1 < ps.length) : chN (ps.drop j) = chN (ps.drop (j + 1)) ++ [leafN ps[j].an, askN ps[j + 1].fr (chN (ps.drop (j + 1))).length ((chN (ps.drop (j + 1))).length - 1 : Nat)] := by
  rw [drop_two ps j h, chN_cons, ← List.drop_eq_getElem_cons (show j + 1 < ps.length by omega)]
theorem chN_dlen (ps : List Pc) (j : Nat) (h : j < ps.length) : (chN (ps.drop j)).length = 2 * (ps.length - 1 - j) + 1 := by
  rw [List.drop_eq_getElem_cons h, chN_len, List.length_drop]; omega
end Go.Proofs.YtbciennhcdabeaaDoor
namespace Go.Proofs.YtbciennhcdabeaaDoor
set_option linter.unusedVariables false
set_option linter.unusedSimpArgs false
open Go.ChangeShapes Go.WideShapes Go.ChangeAt Go.RowKit

theorem own_side {wx w' : World} {B n n' sz sz' : Nat} {e e' : TypeId} {v v' : Value} {xs xs' : List Value} {o : Obj} (h : wx.ownsRow B e sz v n xs) (h' : wx.ownsRow B e' sz' v' n' xs') (hne : e ≠ e') (hg : (wx.alloc o).grownBy w' v'.ownBlock) : w'.ownsRow B e sz v n xs := (h.alloc o).kept hg (own_apart h h' hne)
theorem row_low {wo wx w' : World} {B n sz : Nat} {t : TypeId} {v : Value} {xs : List Value} {o : Obj} (hown : wo.ownsRow B t sz v n xs) (hz : B ≤ wx.heap.size) (hg : (wx.alloc o).grownBy w' v.ownBlock) : Below B wx w' :=
  ((Below.refl B wx).alloc hz o).grown hg (Nat.le_trans hz (size_le_push_ wx o)) (fun k hk => (hown.lt k hk).1)
def encW (x : Ans × Value) : List Value := [.int .i64 x.1.ck.off, .bool x.1.ck.sav, .string x.1.ck.nm, x.2, .int .i64 x.1.jump]
theorem encW_one (x : Ans × Value) (hs : ∃ a n c, x.2 = .slice a n c) : ∀ u ∈ encW x, u.oneCell' = true := by
  intro u hu
  obtain ⟨a, n, c, hs⟩ := hs
  simp [encW, hs] at hu
  rcases hu with rfl | rfl | rfl | rfl | rfl <;> rfl
theorem own_mv {w w' : World} {B n sz : Nat} {e : TypeId} {v : Value} {xs : List Value} (h : w.ownsRow B e sz v n xs) (k : ∀ c, B ≤ c → c < w.heap.size → w'.heap[c]? = w.heap[c]?) : w'.ownsRow B e sz v n xs := by
  obtain ⟨h1, h2⟩ := h
  refine ⟨h1, ?_⟩
  rcases h2 with h2 | ⟨g, cap, cur, hv, hg, hh, r⟩
  · exact .inl h2
  · exact .inr ⟨g, cap, cur, hv, hg, (k g hg (Array.getElem?_eq_some_iff.1 hh).1).trans hh, r⟩
theorem slAt_via {α β : Type} {w : World} {sz : Nat} {R : List Value → α → Prop} {R' : List Value → β → Prop} {v : Value} {xs : List α} (f : α → β) (h : SlAt w sz R v xs) (hR : ∀ cs, ∀ x ∈ xs, R cs x → R' cs (f x)) : SlAt w sz R' v (xs.map f) := by
  rcases h with ⟨a, cap, hv, rfl⟩ | ⟨b, off, cap, hv, h0, h1, h2, h3, h4⟩
  · exact .inl ⟨a, cap, hv, rfl⟩
  · refine .inr ⟨b, off, cap, by rw [List.length_map]; exact hv, by rw [List.length_map]; exact h0, by rw [List.length_map]; exact h1, h2, h3, fun i hi => ?_⟩
    rw [List.length_map] at hi
    obtain ⟨cs, c1, c2, c3⟩ := h4 i hi
    exact ⟨cs, c1, by rw [List.getElem_map]; exact hR _ _ (List.getElem_mem hi) c2, c3⟩
/-- what an answer must be to lie in memory. -/
def AnO (x : Ans) : Prop := I64 x.ck.off ∧ I64 x.jump ∧ x.ck.nm.size ≤ maxLen ∧ ∀ o ∈ x.offs, I64 o
theorem anO_of {w : World} {va : Value} {l : List Ans} (h : SlAt w 5 (RAns w) va l) (x : Ans) (hx : x ∈ l) : AnO x := by
  obtain ⟨cs, v, _, h1, h2, h3, h4⟩ := h.all x hx
  exact ⟨h2, h3, h4, ints64 h1⟩
end Go.Proofs.YtbciennhcdabeaaDoor
namespace Go.Proofs.YtbciennhcdabeaaDoor
set_option linter.unusedVariables false
set_option linter.unusedSimpArgs false
open Go.ChangeShapes Go.WideShapes Go.ChangeAt Go.RowKit

/-- a value that is no slice. -/
def NSl (u : Value) : Prop := ∀ a n c, u ≠ .slice a n c
/-- a block of slices alone. -/
def SlB (w : World) (b : Nat) : Prop := ∀ j u, w.cell? ⟨b, j, none⟩ = some u → ¬ NSl u
theorem SlAt.apart {α : Type} {w w' : World} {sz b : Nat} {R R' : List Value → α → Prop} {v : Value} {xs : List α} (h : SlAt w sz R v xs) (h0 : 0 < sz) (hR : ∀ cs x, R cs x → R' cs x ∧ ∃ c, cs[0]? = some c ∧ NSl c) (hb : SlB w b) (hw : ∀ c, c ≠ b → w'.heap[c]? = w.heap[c]?) (hs : w.heap.size ≤ w'.heap.size) : SlAt w' sz R' v xs := by
  rcases h with h | ⟨d, off, cap, hv, p0, p1, p2, p3, p4⟩
  · exact .inl h
  · have hne : d ≠ b := fun e => by
      subst e
      obtain ⟨cs, _, q1, q2⟩ := p4 0 p0
      obtain ⟨_, c, q3, q4⟩ := hR _ _ q1
      exact hb _ c ((q2 0 h0).trans q3) q4
    refine .inr ⟨d, off, cap, hv, p0, p1, p2, Nat.lt_of_lt_of_le p3 hs, fun i hi => ?_⟩
    obtain ⟨cs, q0, q1, q2⟩ := p4 i hi
    exact ⟨cs, q0, (hR _ _ q1).1, fun j hj => by rw [World.cell?_of_block (a := ⟨d, _, none⟩) (hw d hne)]; exact q2 j hj⟩
theorem RInt.nsl {cs : List Value} {x : Int} (h : RInt cs x) : RInt cs x ∧ ∃ c, cs[0]? = some c ∧ NSl c := by
  refine ⟨h, ?_⟩
  obtain ⟨rfl, _⟩ := h
  exact ⟨_, rfl, fun a n c e => by cases e⟩
theorem RIns.nsl {cs : List Value} {x : Ins} (h : RIns cs x) : RIns cs x ∧ ∃ c, cs[0]? = some c ∧ NSl c := by
  refine ⟨h, ?_⟩
  obtain ⟨rfl, _⟩ := h
  exact ⟨_, rfl, fun a n c e => by cases e⟩
theorem RNod.nsl {cs : List Value} {x : Nod} (h : RNod cs x) : RNod cs x ∧ ∃ c, cs[0]? = some c ∧ NSl c := by
  refine ⟨h, ?_⟩
  obtain ⟨rfl, _⟩ := h
  exact ⟨_, rfl, fun a n c e => by cases e⟩
theorem RAns.nsl {w w' : World} {b : Nat} (hb : SlB w b) (hw : ∀ c, c ≠ b → w'.heap[c]? = w.heap[c]?) (hs : w.heap.size ≤ w'.heap.size) {cs : List Value} {x : Ans} (h : RAns w cs x) : RAns w' cs x ∧ ∃ c, cs[0]? = some c ∧ NSl c := by
  obtain ⟨v, rfl, h1, h2⟩ := h
  exact ⟨⟨v, rfl, h1.apart (by omega) (fun _ _ h => h.nsl) hb hw hs, h2⟩, _, rfl, fun a n c e => by cases e⟩
theorem PrgAt.apart {w w' : World} {vc vp va : Value} {p : Prg} (h : PrgAt w vc vp va p) {b : Nat} (hb : SlB w b) (hw : ∀ c, c ≠ b → w'.heap[c]? = w.heap[c]?) (hs : w.heap.size ≤ w'.heap.size) : PrgAt w' vc vp va p :=
  ⟨h.1.apart (by omega) (fun _ _ h => h.nsl) hb hw hs, h.2.1.apart (by omega) (fun _ _ h => h.nsl) hb hw hs, h.2.2.apart (by omega) (fun _ _ h => h.nsl hb hw hs) hb hw hs⟩
theorem FrsAt.apart {w w' : World} {vn va : Value} {f : Frs} (h : FrsAt w vn va f) {b : Nat} (hb : SlB w b) (hw : ∀ c, c ≠ b → w'.heap[c]? = w.heap[c]?) (hs : w.heap.size ≤ w'.heap.size) : FrsAt w' vn va f :=
  ⟨h.1.apart (by omega) (fun _ _ h => h.nsl) hb hw hs, h.2.apart (by omega) (fun _ _ h => h.nsl hb hw hs) hb hw hs⟩
/-- a box of slices that was made. -/
theorem SlB.new (w : World) (cs : Array Value) (t : TypeId) (h : ∀ (j : Nat) (u : Value), cs[j]? = some u → ¬ NSl u) : SlB (w.alloc (.cells cs t)) w.heap.size := fun j u hu => by
  rw [World.cell?_alloc_at (w := w) _ _ w.heap.size j rfl] at hu
  exact h j u hu
theorem SlB.below {w w' : World} {b B : Nat} (h : SlB w b) (hb : Below B w w') (hl : b < B) : SlB w' b := fun j u hu => h j u ((hb.cell (p := ⟨b, j, none⟩) hl).symm.trans hu)
/-- a program's box. -/
def PBx (w : World) (O : Nat) (vc vp va : Value) : Prop := w.cell? ⟨O, 0, none⟩ = some vc ∧ w.cell? ⟨O, 1, none⟩ = some vp ∧ w.cell? ⟨O, 2, none⟩ = some va ∧ (∀ j, w.frozen? ⟨O, j, none⟩ = false) ∧ O < w.heap.size
theorem PBx.new (w : World) (vc vp va : Value) (t : TypeId) : PBx (w.alloc (.cells #[vc, vp, va] t)) w.heap.size vc vp va :=
  ⟨World.cell?_alloc_at (w := w) _ _ w.heap.size 0 rfl, World.cell?_alloc_at (w := w) _ _ w.heap.size 1 rfl, World.cell?_alloc_at (w := w) _ _ w.heap.size 2 rfl, fun j => World.frozen?_alloc_at (w := w) _ _ w.heap.size j rfl, by rw [size_alloc]; omega⟩
theorem PBx.block {w w' : World} {O : Nat} {vc vp va : Value} (h : PBx w O vc vp va) (e : w'.heap[O]? = w.heap[O]?) (hz : O < w'.heap.size) : PBx w' O vc vp va := by
  obtain ⟨h0, h1, h2, h3, _⟩ := h
  exact ⟨(World.cell?_of_block (a := ⟨O, 0, none⟩) e).trans h0, (World.cell?_of_block (a := ⟨O, 1, none⟩) e).trans h1, (World.cell?_of_block (a := ⟨O, 2, none⟩) e).trans h2, fun j => (World.frozen?_of_block (a := ⟨O, j, none⟩) e).trans (h3 j), hz⟩
theorem PBx.below {w w' : World} {O B : Nat} {vc vp va : Value} (h : PBx w O vc vp va) (hb : Below B w w') (hO : O < B) : PBx w' O vc vp va := h.block (hb.block O hO) (Nat.lt_of_lt_of_le h.2.2.2.2 hb.size)
theorem PBx.set3 {w : World} {O : Nat} {vc vp va : Value} (h : PBx w O vc vp va) (u0 u1 u2 : Value) : PBx (((w.setCell ⟨O, 0, none⟩ u0).setCell ⟨O, 1, none⟩ u1).setCell ⟨O, 2, none⟩ u2) O u0 u1 u2 := by
  obtain ⟨c0, c1, c2, f, z⟩ := h
  have oth : ∀ {w : World} {b i j : Nat} {u v : Value}, j ≠ i → w.cell? ⟨b, j, none⟩ = some v → (w.setCell ⟨b, i, none⟩ u).cell? ⟨b, j, none⟩ = some v := fun hne hc => by
    rw [World.cell?_setCell_other (h := by simp [hne.symm])]; exact hc
  have same : ∀ {w : World} {b i : Nat} {u v : Value}, w.cell? ⟨b, i, none⟩ = some v → (w.setCell ⟨b, i, none⟩ u).cell? ⟨b, i, none⟩ = some u := fun hc => World.cell?_setCell_same (h := hc) ..
  refine ⟨oth (by omega) (oth (by omega) (same c0)), oth (by omega) (same (oth (by omega) c1)), same (oth (by omega) (oth (by omega) c2)), fun j => ?_, ?_⟩
  · rw [World.frozen?_setCell, World.frozen?_setCell, World.frozen?_setCell]; exact f j
  · rw [World.size_setCell, World.size_setCell, World.size_setCell]; exact z
theorem heap_set3 {w : World} {O : Nat} {u0 u1 u2 : Value} (c : Nat) (h : c ≠ O) : (((w.setCell ⟨O, 0, none⟩ u0).setCell ⟨O, 1, none⟩ u1).setCell ⟨O, 2, none⟩ u2).heap[c]? = w.heap[c]? :=
  ((Below.heap_setCell _ _ _ _ h).trans (Below.heap_setCell _ _ _ _ h)).trans (Below.heap_setCell _ _ _ _ h)
theorem PrgAt.set3 {w : World} {vc vp va : Value} {p : Prg} (h : PrgAt w vc vp va p) {O : Nat} (hb : SlB w O) (u0 u1 u2 : Value) : PrgAt (((w.setCell ⟨O, 0, none⟩ u0).setCell ⟨O, 1, none⟩ u1).setCell ⟨O, 2, none⟩ u2) vc vp va p :=
  h.apart hb (fun c hc => heap_set3 c hc) (by rw [World.size_setCell, World.size_setCell, World.size_setCell]; exact Nat.le_refl _)
theorem PBx.next {w w' : World} {O : Nat} {vc vp va : Value} (h : PBx w O vc vp va) (hb : Below w.heap.size w w') : PBx w' O vc vp va := h.below hb h.2.2.2.2
end Go.Proofs.YtbciennhcdabeaaDoor
