/-
  Slices of the call's own: how they read as lists. Small laws that many texts share. The laws' small helpers: sameInts, asked. Which answer a forest tells: the relation, that it holds of one answer, valueOf. tree.leaf: the measure of its loop (plain part). tree.leaf: the place of the answer to which a number leads. The bounds of a forest; copies of answers. The copy of an answer by the document's function. tree.Eval. tree.Eval of a forest that may be. The law on tree.Eval. A chain of pieces as nodes: the plain part. A number from 0 to many - 1. Small laws that the texts on tree.Opt need. tree.chain: its closure, and the chain. tree.chain: pieces as a tree. Rows of answers, each with a row of its offsets. What is stored into a box of slices changes no row of numbers.
-/
import Derived.OwnWalk
import Derived.Laws.OwnMore
import Derived.Laws.AppendOwnNone
import Derived.Deep.RegionHeld3
import Derived.IntWalk
import Derived.Maps.OwnOps
import Derived.Maps.OwnSet
import Derived.Maps.Views
import Derived.StillTailTactics
import Derived.Deep.DeepCutAuto
import Derived.Deep.CutRange
import Derived.Deep.CutBlock
import Derived.Test.YtbikdlcjbigafaaGreatDoorJSrcT
import Derived.Test.YtbikdlcjbigafaaGreatDoorJBase
namespace Go.Proofs.YtbikdlcjbigafaaGreatDoor
set_option linter.unusedVariables false
set_option linter.unusedSimpArgs false
open Go.ChangeShapes Go.WideShapes Go.ChangeAt Go.RowKit

theorem flat_at {α : Type} {enc : α → List Value} {sz : Nat} (he : ∀ x, (enc x).length = sz) : ∀ (xs : List α) (i j : Nat) (hi : i < xs.length), j < sz → (xs.flatMap enc)[i * sz + j]? = (enc xs[i])[j]?
  | [], i, j, hi, _ => by simp at hi
  | x :: xs, 0, j, _, hj => by
    simp only [List.flatMap_cons, Nat.zero_mul, Nat.zero_add, List.getElem_cons_zero]
    rw [List.getElem?_append_left (by rw [he]; exact hj)]
  | x :: xs, i + 1, j, hi, hj => by
    simp only [List.flatMap_cons, List.getElem_cons_succ]
    rw [List.getElem?_append_right (by rw [he, Nat.succ_mul]; omega)]
    rw [show (i + 1) * sz + j - (enc x).length = i * sz + j from by rw [he, Nat.succ_mul]; omega]
    exact flat_at he xs i j (by simpa using hi) hj
theorem slAt_of_own {α : Type} {w : World} {base : Nat} {e : TypeId} {sz : Nat} {R : List Value → α → Prop} {enc : α → List Value} {v : Value} {xs : List α} (hs : 0 < sz) (he : ∀ x, (enc x).length = sz) (hR : ∀ x ∈ xs, R (enc x) x)
    (h : w.ownsRow base e sz v xs.length (xs.flatMap enc)) : SlAt w sz R v xs := by
  obtain ⟨hl, h⟩ := h
  rcases h with ⟨rfl, h0⟩ | ⟨g, cap, cur, rfl, hb, hh, hc, hm, hs', ht⟩
  · exact .inl ⟨none, 0, rfl, List.length_eq_zero_iff.1 h0⟩
  · by_cases h0 : xs.length = 0
    · exact .inl ⟨some ⟨g, 0, none⟩, cap, by rw [h0], List.length_eq_zero_iff.1 h0⟩
    · have hown : w.ownsRow base e sz (.slice (some ⟨g, 0, none⟩) xs.length cap) xs.length (xs.flatMap enc) := ⟨hl, .inr ⟨g, cap, cur, rfl, hb, hh, hc, hm, hs', ht⟩⟩
      have hg : g < w.heap.size := by
        rcases Nat.lt_or_ge g w.heap.size with q | q
        · exact q
        · rw [Array.getElem?_eq_none q] at hh; cases hh
      refine .inr ⟨g, 0, cap, rfl, by omega, hc, hm, hg, fun i hi => ⟨enc xs[i], he _, hR _ (List.getElem_mem hi), fun j hj => ?_⟩⟩
      have hlt : i * sz + j < xs.length * sz := by
        have : (i + 1) * sz ≤ xs.length * sz := Nat.mul_le_mul_right _ hi
        rw [Nat.succ_mul] at this
        omega
      rw [Nat.zero_add, hown.cellAt _ hlt]
      exact flat_at he xs i j hi hj
def encI (x : Int) : List Value := [.int .i64 x]
theorem ints_of_own {w : World} {base : Nat} {e : TypeId} {v : Value} {xs : List Int} (hR : ∀ x ∈ xs, I64 x) (h : w.ownsRow base e 1 v xs.length (xs.flatMap encI)) : SlAt w 1 RInt v xs :=
  slAt_of_own (by omega) (fun _ => rfl) (fun x hx => ⟨rfl, hR x hx⟩) h
theorem SlAt.all {α : Type} {w : World} {sz : Nat} {R : List Value → α → Prop} {v : Value} {xs : List α} (h : SlAt w sz R v xs) (x : α) (hx : x ∈ xs) : ∃ cs, R cs x := by
  rcases h with ⟨a, cap, hv, rfl⟩ | ⟨b, off, cap, hv, h0, h1, h2, h3, h4⟩
  · simp at hx
  · obtain ⟨i, hi, rfl⟩ := List.mem_iff_getElem.1 hx
    obtain ⟨cs, _, r, _⟩ := h4 i hi
    exact ⟨cs, r⟩
theorem own_snoc {w : World} {B : Nat} {e : TypeId} {v : Value} {xs : List Int} {x : Int} (h : w.ownsRow B e 1 v (xs.length + 1) (xs.flatMap encI ++ [.int .i64 x])) : w.ownsRow B e 1 v (xs ++ [x]).length ((xs ++ [x]).flatMap encI) := by
  have e1 : (xs ++ [x]).flatMap encI = xs.flatMap encI ++ [.int .i64 x] := by simp [encI]
  rw [e1, List.length_append]
  exact h
theorem info_int : (Tryz.prog.info? 3).map (fun i => (i.zero, i.size, i.bytes)) = some (some (.int .i64 0), 1, 8) := by kernel_rfl
theorem size_alloc (w : World) (o : Obj) : (w.alloc o).heap.size = w.heap.size + 1 := by show (w.heap.push o).size = _; rw [Array.size_push]
end Go.Proofs.YtbikdlcjbigafaaGreatDoor
namespace Go.Proofs.YtbikdlcjbigafaaGreatDoor
set_option linter.unusedVariables false
set_option linter.unusedSimpArgs false
open Go.ChangeShapes Go.WideShapes Go.ChangeAt Go.RowKit

theorem size_le_push_ (w : World) (o : Obj) : w.heap.size ≤ (w.alloc o).heap.size := by show _ ≤ (w.heap.push o).size; rw [Array.size_push]; omega
theorem two_new (w : World) (c d : Array Value) (e e' : TypeId) :
    ((w.alloc (.cells c e)).alloc (.cells d e')).heap.size = w.heap.size + 2 ∧ (∀ j, ((w.alloc (.cells c e)).alloc (.cells d e')).cell? ⟨w.heap.size, j, none⟩ = c[j]?) ∧ (∀ j, ((w.alloc (.cells c e)).alloc (.cells d e')).cell? ⟨w.heap.size + 1, j, none⟩ = d[j]?) ∧
    (∀ j, ((w.alloc (.cells c e)).alloc (.cells d e')).frozen? ⟨w.heap.size, j, none⟩ = false) ∧ (∀ j, ((w.alloc (.cells c e)).alloc (.cells d e')).frozen? ⟨w.heap.size + 1, j, none⟩ = false) := by
  have hs := size_alloc w (.cells c e)
  have hB : Below (w.alloc (.cells c e)).heap.size (w.alloc (.cells c e)) ((w.alloc (.cells c e)).alloc (.cells d e')) := (Below.refl _ _).alloc (Nat.le_refl _) _
  refine ⟨by rw [size_alloc, hs], fun j => ?_, fun j => World.cell?_alloc_at _ _ _ _ hs.symm, fun j => ?_, fun j => ?_⟩
  · rw [hB.cell (p := ⟨w.heap.size, j, none⟩) (by rw [hs]; exact Nat.lt_succ_self _)]
    exact World.cell?_alloc_at _ _ _ _ rfl
  · rw [hB.frozen (p := ⟨w.heap.size, j, none⟩) (by rw [hs]; exact Nat.lt_succ_self _)]
    exact World.frozen?_alloc_at _ _ _ _ rfl
  · exact World.frozen?_alloc_at _ _ _ _ hs.symm
theorem own_shape {w : World} {B n sz : Nat} {e : TypeId} {v : Value} {xs : List Value} (h : w.ownsRow B e sz v n xs) : ∃ a cap, v = .slice a n cap := by
  rcases h.2 with ⟨rfl, rfl⟩ | ⟨g, cap, cur, rfl, _⟩
  · exact ⟨none, 0, rfl⟩
  · exact ⟨_, cap, rfl⟩
theorem ownsRow_base {w : World} {B C n sz : Nat} {e : TypeId} {v : Value} {xs : List Value} (hC : C ≤ B) (h : w.ownsRow B e sz v n xs) : w.ownsRow C e sz v n xs := by
  obtain ⟨h1, h2⟩ := h
  refine ⟨h1, ?_⟩
  rcases h2 with h2 | ⟨g, cap, cur, hv, hg, r⟩
  · exact .inl h2
  · exact .inr ⟨g, cap, cur, hv, by omega, r⟩
theorem encI_len (xs : List Int) : (xs.flatMap encI).length = xs.length := by induction xs <;> simp_all [encI]
theorem encI_one (xs : List Int) : ∀ u ∈ xs.flatMap encI, u.oneCell' = true := by
  intro u hu
  obtain ⟨x, _, hx⟩ := List.mem_flatMap.1 hu
  simp [encI] at hx
  subst hx
  rfl
theorem take_snoc {α : Type} (xs : List α) (k : Nat) (h : k < xs.length) : xs.take (k + 1) = xs.take k ++ [xs[k]] := by
  rw [List.take_succ_eq_append_getElem h]
theorem elemInt {w : World} {aa : Option Addr} {n ca : Nat} {xs : List Int} (h : SlAt w 1 RInt (.slice aa n ca) xs) (k : Nat) (hk : k < xs.length) :
    ∃ b off, aa = some ⟨b, off, none⟩ ∧ b < w.heap.size ∧ w.cell? ⟨b, off + k, none⟩ = some (.int .i64 xs[k]) ∧ I64 xs[k] := by
  rcases h with ⟨a, cap, hv, rfl⟩ | ⟨b, off, cap, hv, h0, h1, h2, h3, h4⟩
  · simp at hk
  · simp only [Value.slice.injEq] at hv
    obtain ⟨p, q⟩ := intCell h4 k hk
    exact ⟨b, off, hv.1, h3, p, q⟩
theorem ferr_all {α : Type} (f : Nat → α → Int) : ∀ (xs : List α) (s : Nat), ferr f s xs = 0 → ∀ i (hi : i < xs.length), f (s + i) xs[i] = 0
  | [], _, _, i, hi => by simp at hi
  | x :: xs, s, h, 0, _ => by
    unfold ferr at h
    by_cases e : f s x = 0
    · simpa using e
    · rw [if_pos e] at h; exact absurd h e
  | x :: xs, s, h, i + 1, hi => by
    unfold ferr at h
    by_cases e : f s x = 0
    · rw [if_neg (by simpa using e)] at h
      have := ferr_all f xs (s + 1) h i (by simpa using hi)
      simp only [List.getElem_cons_succ]
      rw [show s + (i + 1) = s + 1 + i from by omega]
      exact this
    · rw [if_pos e] at h; exact absurd h e
theorem ansE_offs {a : Ans} (h : ansE a = 0) : a.offs.length ≤ 6 ∧ a.ck.nm.size ≤ 24 := by
  unfold ansE at h
  split at h
  · omega
  · split at h
    · omega
    · rename_i h2
      unfold ansBig at h2
      simp at h2
      omega
theorem five_below {w w1 : World} {b : Nat} (h : Below w.heap.size w w1) (hb : w.heap.size ≤ b) (v0 v1 v2 v3 v4 : Value) :
    Below w.heap.size w (((((w1.setCell ⟨b, 0, none⟩ v0).setCell ⟨b, 1, none⟩ v1).setCell ⟨b, 2, none⟩ v2).setCell ⟨b, 3, none⟩ v3).setCell ⟨b, 4, none⟩ v4) :=
  ((((h.setCell hb _).setCell hb _).setCell hb _).setCell hb _).setCell hb _
theorem five_own {w1 : World} {B b n sz : Nat} {e : TypeId} {v : Value} {xs : List Value} (h : w1.ownsRow B e sz v n xs) (hb : b < B) (v0 v1 v2 v3 v4 : Value) :
    (((((w1.setCell ⟨b, 0, none⟩ v0).setCell ⟨b, 1, none⟩ v1).setCell ⟨b, 2, none⟩ v2).setCell ⟨b, 3, none⟩ v3).setCell ⟨b, 4, none⟩ v4).ownsRow B e sz v n xs :=
  ownsRow_setCell_below (ownsRow_setCell_below (ownsRow_setCell_below (ownsRow_setCell_below (ownsRow_setCell_below h hb _) hb _) hb _) hb _) hb _
theorem own_snocG {α : Type} {w : World} {B sz : Nat} {e : TypeId} {v : Value} {enc : α → List Value} {xs : List α} {x : α} (h : w.ownsRow B e sz v (xs.length + 1) (xs.flatMap enc ++ enc x)) : w.ownsRow B e sz v (xs ++ [x]).length ((xs ++ [x]).flatMap enc) := by
  have e1 : (xs ++ [x]).flatMap enc = xs.flatMap enc ++ enc x := by simp
  rw [e1, List.length_append]
  exact h
theorem cells_at (w : World) (l : List Value) (c : Array Value) (e : TypeId) (n : Nat) (hn : n = w.heap.size) (hc : l = c.toList) : ∀ j u, l[j]? = some u → (w.alloc (.cells c e)).cell? ((⟨n, 0, none⟩ : Addr).add j) = some u := by
  intro j u hj
  subst hn hc
  rw [add_one_, Nat.zero_add, World.cell?_alloc_at _ _ _ _ rfl]
  simpa using hj
theorem append_keep {w wA w1 : World} {B sz n : Nat} {e : TypeId} {v : Value} {xs : List Value} (hown : w.ownsRow B e sz v n xs) (hA : Below B w wA) (hBz : B ≤ w.heap.size) (hgrow : wA.grownBy w1 v.ownBlock) : Below B w w1 :=
  hA.trans ((Below.refl B wA).grown hgrow (Nat.le_trans hBz hA.size) (fun g hg => (hown.lt g hg).1))
theorem below_alloc2 {B : Nat} {w : World} (h : B ≤ w.heap.size) (o o' : Obj) : Below B w ((w.alloc o).alloc o') := ((Below.refl B w).alloc h _).alloc (Nat.le_trans h (size_le_push_ w o)) _
theorem cell_keep {B o : Nat} {w w1 : World} {u : Value} (h : Below B w w1) (hz : B ≤ w.heap.size) (ho : o < B) (hc : w.cell? ⟨o, 0, none⟩ = some u) (hf : w.frozen? ⟨o, 0, none⟩ = false) : w1.cell? ⟨o, 0, none⟩ = some u ∧ w1.frozen? ⟨o, 0, none⟩ = false ∧ o < w1.heap.size :=
  ⟨(h.cell (p := ⟨o, 0, none⟩) ho).trans hc, (h.frozen (p := ⟨o, 0, none⟩) ho).trans hf, by have := h.size; omega⟩
theorem ownsRow_below {w w' : World} {B C n sz : Nat} {e : TypeId} {v : Value} {xs : List Value} (h : w.ownsRow B e sz v n xs) (hb : Below C w w') (hC : w.heap.size ≤ C) : w'.ownsRow B e sz v n xs := by
  obtain ⟨h1, h2⟩ := h
  refine ⟨h1, ?_⟩
  rcases h2 with h2 | ⟨g, cap, cur, hv, hg, hh, r⟩
  · exact .inl h2
  · refine .inr ⟨g, cap, cur, hv, hg, ?_, r⟩
    have hlt : g < w.heap.size := by
      rcases Nat.lt_or_ge g w.heap.size with q | q
      · exact q
      · rw [Array.getElem?_eq_none q] at hh; cases hh
    rw [hb.block g (by omega)]
    exact hh
theorem own_apart {w : World} {B B' n n' sz sz' : Nat} {e e' : TypeId} {v v' : Value} {xs xs' : List Value} (h : w.ownsRow B e sz v n xs) (h' : w.ownsRow B' e' sz' v' n' xs') (hne : e ≠ e') : v.ownBlock = none ∨ v.ownBlock ≠ v'.ownBlock := by
  rcases h.2 with ⟨rfl, _⟩ | ⟨g, cap, cur, rfl, _, hh, _⟩
  · exact .inl rfl
  · rcases h'.2 with ⟨rfl, _⟩ | ⟨g', cap', cur', rfl, _, hh', _⟩
    · exact .inr (by simp [Value.ownBlock])
    · right
      intro e1
      have e2 : g = g' := by simpa [Value.ownBlock] using e1
      subst e2
      rw [hh] at hh'
      simp at hh'
      exact hne hh'.2
theorem grown_cell {w w' : World} {row : Option Nat} (h : w.grownBy w' row) {b o : Nat} (hb : b < w.heap.size) (hne : some b ≠ row) : w'.cell? ⟨b, o, none⟩ = w.cell? ⟨b, o, none⟩ :=
  World.cell?_of_block (a := ⟨b, o, none⟩) (h.block b hb hne)
theorem i64_of {x : Int} (h1 : -9223372036854775808 ≤ x) (h2 : x ≤ 9223372036854775807) : I64 x := by
  show (Lit.int .i64 x).wf = true
  simp [Lit.wf, IntKind.min, IntKind.max, IntKind.signed, IntKind.bits]
  omega
theorem i64_zero : I64 0 := i64_of (by omega) (by omega)
theorem i64_nat (n : Nat) (h : n ≤ 100000) : I64 (n : Int) := i64_of (by omega) (by omega)
end Go.Proofs.YtbikdlcjbigafaaGreatDoor
namespace Go.Proofs.YtbikdlcjbigafaaGreatDoor
set_option linter.unusedVariables false
set_option linter.unusedSimpArgs false
open Go.ChangeShapes Go.WideShapes Go.ChangeAt Go.RowKit

end Go.Proofs.YtbikdlcjbigafaaGreatDoor
namespace Go.Proofs.YtbikdlcjbigafaaGreatDoor
set_option linter.unusedVariables false
set_option linter.unusedSimpArgs false
open Go.ChangeShapes Go.WideShapes Go.ChangeAt Go.RowKit

/-- from node i on, the number t comes to the leaf that bears the answer a. -/
inductive Lf (ns : List Nod) (t : Int) : Nat → Int → Prop
  | leaf (i : Nat) (h : i < ns.length) (e : ns[i].lf = true) : Lf ns t i ns[i].an
  | less (i k : Nat) (a : Int) (h : i < ns.length) (e : ns[i].lf = false) (c : t < ns[i].bd) (hk : ns[i].ls = k) (hl : k < i) (r : Lf ns t k a) : Lf ns t i a
  | more (i k : Nat) (a : Int) (h : i < ns.length) (e : ns[i].lf = false) (c : ns[i].bd ≤ t) (hk : ns[i].mr = k) (hl : k < i) (r : Lf ns t k a) : Lf ns t i a
end Go.Proofs.YtbikdlcjbigafaaGreatDoor
namespace Go.Proofs.YtbikdlcjbigafaaGreatDoor
set_option linter.unusedVariables false
set_option linter.unusedSimpArgs false
open Go.ChangeShapes Go.WideShapes Go.ChangeAt Go.RowKit

/-- node y stands at place i. -/
def NodAt (ns : List Nod) (y : Nod) (i : Nat) : Prop := ∃ h : i < ns.length, ns[i] = y
open Classical in
/-- the least place of node y. -/
noncomputable def rank (ns : List Nod) (y : Nod) : Nat := if h : ∃ n, NodAt ns y n ∧ ∀ k, k < n → ¬ NodAt ns y k then h.choose else 0
theorem least {p : Nat → Prop} : ∀ n, p n → ∃ m, (p m ∧ ∀ k, k < m → ¬ p k) ∧ m ≤ n := by
  intro n
  induction n using Nat.strongRecOn with
  | ind n ih =>
    intro hn
    by_cases h : ∃ k, k < n ∧ p k
    · obtain ⟨k, hk, hp⟩ := h
      obtain ⟨m, hm, hle⟩ := ih k hk hp
      exact ⟨m, hm, by omega⟩
    · exact ⟨n, ⟨hn, fun k hk hp => h ⟨k, hk, hp⟩⟩, Nat.le_refl _⟩
theorem rank_le (ns : List Nod) (y : Nod) (i : Nat) (h : NodAt ns y i) : rank ns y ≤ i ∧ NodAt ns y (rank ns y) := by
  obtain ⟨m, hm, hle⟩ := least i h
  have hex : ∃ n, NodAt ns y n ∧ ∀ k, k < n → ¬ NodAt ns y k := ⟨m, hm⟩
  have e : rank ns y = hex.choose := by unfold rank; rw [dif_pos hex]
  have hs := hex.choose_spec
  rw [e]
  refine ⟨?_, hs.1⟩
  by_cases hl : i < hex.choose
  · exact absurd h (hs.2 i hl)
  · omega
/-- a step of the walk goes down. -/
theorem rank_lt (ns : List Nod) (m : Int) (ok : ∀ i (h : i < ns.length), nodE m i ns[i] = 0) (y z : Nod) (i k : Nat) (hy : NodAt ns y i) (hz : NodAt ns z k) (hf : y.lf = false) (hk : y.ls = k ∨ y.mr = k) : rank ns z < rank ns y := by
  obtain ⟨_, hr, er⟩ := rank_le ns y i hy
  have h1 := (rank_le ns z k hz).1
  have hok := ok _ hr
  have hc := nodE_cases m (rank ns y) ns[rank ns y]
  rw [hok, er, hf] at hc
  simp at hc
  omega
def asB : Option Value → Bool
  | some (.bool b) => b
  | _ => false
def asI : Option Value → Int
  | some (.int _ n) => n
  | _ => 0
def boxN (x : Nat) (wr : World) : Nod := ⟨asB (wr.cell? ⟨x, 0, none⟩), asI (wr.cell? ⟨x, 1, none⟩), asI (wr.cell? ⟨x, 2, none⟩), asI (wr.cell? ⟨x, 3, none⟩), asI (wr.cell? ⟨x, 4, none⟩)⟩
def leafW (w : World) (c : Obj) (y : Nod) : World := (w.alloc c).alloc (.cells #[.bool y.lf, .int .i64 y.an, .int .i64 y.bd, .int .i64 y.ls, .int .i64 y.mr] 168)
theorem boxN_leafW (w : World) (c : Obj) (y : Nod) : boxN (w.heap.size + 1) (leafW w c y) = y := by
  have h : ∀ j, (leafW w c y).cell? ⟨w.heap.size + 1, j, none⟩ = _ := fun j => World.cell?_alloc_at (w := w.alloc c) _ _ (w.heap.size + 1) j (by show _ = (w.heap.push c).size; rw [Array.size_push])
  unfold boxN
  rw [h, h, h, h, h]
  rfl
theorem lf_step (ns : List Nod) (t a : Int) (k : Nat) (y : Nod) (hL : Lf ns t k a) (hy : NodAt ns y k) :
    (y.lf = true ∧ y.an = a) ∨ (y.lf = false ∧ t < y.bd ∧ ∃ j : Nat, y.ls = j ∧ j < k ∧ Lf ns t j a) ∨ (y.lf = false ∧ y.bd ≤ t ∧ ∃ j : Nat, y.mr = j ∧ j < k ∧ Lf ns t j a) := by
  obtain ⟨h, rfl⟩ := hy
  cases hL with
  | leaf i h2 e => exact .inl ⟨e, rfl⟩
  | less i j a h2 e c hk hl r => exact .inr (.inl ⟨e, c, j, hk, hl, r⟩)
  | more i j a h2 e c hk hl r => exact .inr (.inr ⟨e, c, j, hk, hl, r⟩)
end Go.Proofs.YtbikdlcjbigafaaGreatDoor
namespace Go.Proofs.YtbikdlcjbigafaaGreatDoor
set_option linter.unusedVariables false
set_option linter.unusedSimpArgs false
open Go.ChangeShapes Go.WideShapes Go.ChangeAt Go.RowKit

set_option maxHeartbeats 1000000 in
theorem leaf_any (f : Frs) (vn va : Value) (t : Int) (i : Nat) (a m : Int) (ok : ∀ i (h : i < f.nodes.length), nodE m i f.nodes[i] = 0) (hi : i + 1 = f.nodes.length) (hL : Lf f.nodes t i a) (w : World) (hf : FrsAt w vn va f) :
    Calls Tryz.prog 57 #[.agg #[vn, va], .int .i64 t] w fun e w' => e = .returned (.int .i64 a) ∧ Below w.heap.size w w' := by
  obtain ⟨ao, cap, rfl, hl2⟩ := hf.1.shape
  obtain ⟨b, off, rfl, hb, c0, c1, c2, c3, c4⟩ := elemNod hf.1 i (by omega)
  have hl' := maxLen_eq _ hl2
  have HF := Lib.hid hf
  have HL := Lib.hid hL
  have HK := Lib.hid ok
  have HY : Hid (NodAt f.nodes f.nodes[i] i) := ⟨by omega, rfl⟩
  have hlen : (f.nodes.length : Int) = (i : Int) + 1 := by omega
  clear hl2 hf hL ok
  generalize f.nodes[i] = x at *
  go_enter Tryz.func57, Tryz.ntmps57
  go_wp2
  go_loopw [16] (fun v wr => ∃ (k : Nat) (y : Nod), wr = leafW w (.cells #[Value.slice (some { block := b, off := off }) f.nodes.length cap, va] 74) y ∧ Hid (NodAt f.nodes y k) ∧ Hid (Lf f.nodes t k a)) (fun _ wr => rank f.nodes (boxN (w.heap.size + 1) wr))
  case atStart => exact ⟨i, x, rfl, HY, HL⟩
  case round =>
    obtain ⟨k, y, rfl, hy, hL⟩ := hrel
    have hc := lf_step f.nodes t a k y hL.out hy.out
    rcases hc with ⟨e, ea⟩ | ⟨e, hlt, j, hj, hjk, hr⟩ | ⟨e, hlt, j, hj, hjk, hr⟩
    · have EA := Lib.hid ea
      clear ea c0 c1 c2 c3 c4
      unfold leafW
      rw [e]
      go_wp2
      go_ret
      exact ⟨ret_int EA.out, ((Below.refl _ _).alloc (Nat.le_refl _) _).alloc (size_le_push_ w _) _⟩
    · have hjl : j < f.nodes.length := by obtain ⟨h, _⟩ := hy.out; omega
      obtain ⟨b', off', hbb, hb', d0, d1, d2, d3, d4⟩ := elemNod HF.out.1 j hjl
      obtain ⟨rfl, rfl⟩ : b = b' ∧ off = off' := by simpa using hbb
      have HZ : Hid (NodAt f.nodes f.nodes[j] j) := ⟨hjl, rfl⟩
      have HR := Lib.hid hr
      have HM := Lib.hid (rank_lt f.nodes m HK.out y f.nodes[j] k j hy.out HZ.out e (.inl hj))
      clear c0 c1 c2 c3 c4 hr hbb
      have HJ := Lib.hid hj
      obtain ⟨ylf, yan, ybd, yls, ymr⟩ := y
      dsimp only at e hlt hj
      subst e hj
      generalize f.nodes[j] = z at *
      unfold leafW
      dsimp only
      go_wp2
      go_roundw
      case rel => exact ⟨j, z, rfl, HZ, HR⟩
      case measure =>
        have e1 := boxN_leafW w (.cells #[Value.slice (some { block := b, off := off }) f.nodes.length cap, va] 74) z
        have e2 := boxN_leafW w (.cells #[Value.slice (some { block := b, off := off }) f.nodes.length cap, va] 74) ⟨false, yan, ybd, j, ymr⟩
        unfold leafW at e1 e2
        dsimp only at e1 e2
        rw [e1, e2]
        exact HM.out
    · have hjl : j < f.nodes.length := by obtain ⟨h, _⟩ := hy.out; omega
      obtain ⟨b', off', hbb, hb', d0, d1, d2, d3, d4⟩ := elemNod HF.out.1 j hjl
      obtain ⟨rfl, rfl⟩ : b = b' ∧ off = off' := by simpa using hbb
      have HZ : Hid (NodAt f.nodes f.nodes[j] j) := ⟨hjl, rfl⟩
      have HR := Lib.hid hr
      have HM := Lib.hid (rank_lt f.nodes m HK.out y f.nodes[j] k j hy.out HZ.out e (.inr hj))
      clear c0 c1 c2 c3 c4 hr hbb
      obtain ⟨ylf, yan, ybd, yls, ymr⟩ := y
      dsimp only at e hlt hj
      subst e hj
      generalize f.nodes[j] = z at *
      unfold leafW
      dsimp only
      go_wp2
      go_roundw
      case rel => exact ⟨j, z, rfl, HZ, HR⟩
      case measure =>
        have e1 := boxN_leafW w (.cells #[Value.slice (some { block := b, off := off }) f.nodes.length cap, va] 74) z
        have e2 := boxN_leafW w (.cells #[Value.slice (some { block := b, off := off }) f.nodes.length cap, va] 74) ⟨false, yan, ybd, yls, j⟩
        unfold leafW at e1 e2
        dsimp only at e1 e2
        rw [e1, e2]
        exact HM.out
end Go.Proofs.YtbikdlcjbigafaaGreatDoor
namespace Go.Proofs.YtbikdlcjbigafaaGreatDoor
set_option linter.unusedVariables false
set_option linter.unusedSimpArgs false
open Go.ChangeShapes Go.WideShapes Go.ChangeAt Go.RowKit

theorem clone_cells {w : World} {b off : Nat} {xs : List Int} (h : ∀ (i : Nat) (h : i < xs.length), w.cell? ⟨b, off + i, none⟩ = some (.int .i64 xs[i]) ∧ I64 xs[i]) (hb : b < w.heap.size) (o : Obj) :
    ∀ j u, (xs.flatMap encI)[j]? = some u → (w.alloc o).cell? ((⟨b, off, none⟩ : Addr).add j) = some u := by
  intro j u hj
  have hl : (xs.flatMap encI).length = xs.length := by
    have : ∀ l : List Int, (l.flatMap encI).length = l.length := fun l => by induction l <;> simp_all [encI]
    exact this xs
  have hlt : j < xs.length := by have := (List.getElem?_eq_some_iff.1 hj).1; omega
  have h1 := flat_at (enc := encI) (sz := 1) (fun _ => rfl) xs j 0 hlt (by omega)
  rw [Nat.mul_one, Nat.add_zero, hj] at h1
  have hB : Below w.heap.size w (w.alloc o) := (Below.refl _ _).alloc (Nat.le_refl _) _
  rw [add_one_, hB.cell (p := ⟨b, _, none⟩) hb, (h j hlt).1, h1]
  rfl
set_option maxHeartbeats 1000000 in
theorem cloneInts_any (v : Value) (xs : List Int) (w : World) (hv : SlAt w 1 RInt v xs) (hr : xs.length * 8 ≤ 140737488355328) :
    Calls Tryz.prog 95 #[v] w fun e w' => ∃ v', e = .returned v' ∧ w'.ownsRow w.heap.size 3 1 v' xs.length (xs.flatMap encI) ∧ Below w.heap.size w w' := by
  have q22 : ∀ (w : World) (a : Option Addr) (n c n' c' : Nat), (binOp .eql 77 (.slice a n c) (.slice none n' c')).run Tryz.prog w = .ok (.bool a.isNone) w := fun w a n c n' c' => Lib.run_eql_slice_nil w _ _ a n c n' c' Tryz.underlying77
  obtain ⟨i0, hi, hz0, hz1, hz2⟩ := info_parts info_int
  have fin : ∀ (ad : Addr) (n c : Nat), xs.length = n → (∀ j u, (xs.flatMap encI)[j]? = some u → (w.alloc (.cells #[] 3)).cell? (ad.add j) = some u) → Calls Tryz.prog 95 #[.slice (some ad) n c] w fun e w' => ∃ v', e = .returned v' ∧ w'.ownsRow w.heap.size 3 1 v' xs.length (xs.flatMap encI) ∧ Below w.heap.size w w' := by
    intro ad n c hn hc
    subst hn
    have HC := Lib.hid hc
    clear hc hv
    go_enter Tryz.func95, Tryz.ntmps95
    go_wp2_with (at_builtin; refine wpList_append_own _ rfl _ _ 77 rfl w.heap.size 3 i0 (.int .i64 0) 1 8 Tryz.underlying77 hi hz0 hz1 hz2 rfl (by decide) _ _ _ rfl (World.ownsRow_made w #[] 0 (Nat.le_refl _) (Nat.zero_le _) rfl) ad xs.length c (xs.flatMap encI) rfl (by rw [encI_len]; omega) HC.out (encI_one xs) (by unfold maxLen; omega) (by omega) (by rw [size_alloc]; omega) ?_; intro v' w1 hown' hgrow _)
    simp only [Nat.zero_add, List.nil_append] at hown'
    go_wp2
    go_ret
    exact ⟨_, rfl, hown', ((Below.refl _ w).alloc (Nat.le_refl _) _).grown (show (w.alloc (.cells #[] 3)).grownBy w1 (some w.heap.size) from hgrow) (by rw [size_alloc]; omega) (by intro k hk; exact Nat.le_of_eq (Option.some.inj hk))⟩
  rcases hv with ⟨a, cap, rfl, rfl⟩ | ⟨b, off, cap, rfl, h0, h1, h2, h3, h4⟩
  · cases a with
    | none =>
      clear fin hi hz0 hz1 hz2
      go_enter Tryz.func95, Tryz.ntmps95
      go_wp2
      go_ret
      exact ⟨_, rfl, World.ownsRow_nil _ _ _ _, Below.refl _ _⟩
    | some a => exact fin a 0 cap rfl (fun j u hj => by simp at hj)
  · exact fin _ _ _ rfl (clone_cells (intCell h4) h3 _)
set_option maxHeartbeats 1000000 in
theorem clone_any (a : Ans) (vo : Value) (w : World) (hv : SlAt w 1 RInt vo a.offs) (hr : a.offs.length * 8 ≤ 140737488355328) :
    Calls Tryz.prog 56 #[.agg #[.int .i64 a.ck.off, .bool a.ck.sav, .string a.ck.nm, vo, .int .i64 a.jump]] w fun e w' => ∃ v', e = .returned (.agg #[.int .i64 a.ck.off, .bool a.ck.sav, .string a.ck.nm, v', .int .i64 a.jump]) ∧ w'.ownsRow w.heap.size 3 1 v' a.offs.length (a.offs.flatMap encI) ∧ Below w.heap.size w w' := by
  obtain ⟨⟨off, sav, nm⟩, offs, jump⟩ := a
  dsimp only at hv hr ⊢
  obtain ⟨ao, cap, rfl, hl⟩ := hv.shape
  have HV := Lib.hid hv
  clear hv hl
  go_enter Tryz.func56, Tryz.ntmps56
  go_wp2_with fail
  have bw : Below w.heap.size w ((w.alloc (.cells #[.int .i64 off, .bool sav, .string nm, .slice ao offs.length cap, .int .i64 jump] 79)).alloc (.cells #[.int .i64 0, .bool false, .string ⟨#[]⟩, .slice none 0 0, .int .i64 0] 79)) := ((Below.refl _ _).alloc (Nat.le_refl _) _).alloc (size_le_push_ w _) _
  obtain ⟨hs, b0, b1, g0, g1⟩ := two_new w #[.int .i64 off, .bool sav, .string nm, .slice ao offs.length cap, .int .i64 jump] #[.int .i64 0, .bool false, .string ⟨#[]⟩, .slice none 0 0, .int .i64 0] 79 79
  generalize (w.alloc (.cells #[.int .i64 off, .bool sav, .string nm, .slice ao offs.length cap, .int .i64 jump] 79)).alloc (.cells #[.int .i64 0, .bool false, .string ⟨#[]⟩, .slice none 0 0, .int .i64 0] 79) = W2 at *
  refine (cloneInts_any _ offs _ (HV.out.mono bw fun _ _ h => h) hr).mono ?_
  rintro e w1 ⟨v', rfl, hown, hb1⟩
  obtain ⟨av, cv, rfl⟩ := own_shape hown
  obtain ⟨hc, hf⟩ := bcell hb1
  have hz : w.heap.size + 1 < w1.heap.size := by have := hb1.size; omega
  have hz0 : w.heap.size < w1.heap.size := by omega
  have d0 : w1.cell? ⟨w.heap.size, 0, none⟩ = some (.int .i64 off) := (hc _ _ (by omega)).trans (b0 0)
  have d1 : w1.cell? ⟨w.heap.size, 1, none⟩ = some (.bool sav) := (hc _ _ (by omega)).trans (b0 1)
  have d2 : w1.cell? ⟨w.heap.size, 2, none⟩ = some (.string nm) := (hc _ _ (by omega)).trans (b0 2)
  have d3 : w1.cell? ⟨w.heap.size, 3, none⟩ = some (.slice ao offs.length cap) := (hc _ _ (by omega)).trans (b0 3)
  have d4 : w1.cell? ⟨w.heap.size, 4, none⟩ = some (.int .i64 jump) := (hc _ _ (by omega)).trans (b0 4)
  have r0 : w1.cell? ⟨w.heap.size + 1, 0, none⟩ = some (.int .i64 0) := (hc _ _ (by omega)).trans (b1 0)
  have r1 : w1.cell? ⟨w.heap.size + 1, 1, none⟩ = some (.bool false) := (hc _ _ (by omega)).trans (b1 1)
  have r2 : w1.cell? ⟨w.heap.size + 1, 2, none⟩ = some (.string ⟨#[]⟩) := (hc _ _ (by omega)).trans (b1 2)
  have r3 : w1.cell? ⟨w.heap.size + 1, 3, none⟩ = some (.slice none 0 0) := (hc _ _ (by omega)).trans (b1 3)
  have r4 : w1.cell? ⟨w.heap.size + 1, 4, none⟩ = some (.int .i64 0) := (hc _ _ (by omega)).trans (b1 4)
  have f0 : ∀ j, w1.frozen? ⟨w.heap.size, j, none⟩ = false := fun j => (hf _ _ (by omega)).trans (g0 j)
  have f1 : ∀ j, w1.frozen? ⟨w.heap.size + 1, j, none⟩ = false := fun j => (hf _ _ (by omega)).trans (g1 j)
  have HB : Hid (Below w.heap.size w w1) := bw.trans (hb1.mono bw.size)
  have HO := Lib.hid hown
  have HS := Lib.hid hs
  clear hc hf b0 b1 g0 g1 hb1 bw hown hs HV
  go_wp2
  refine bodyPost_ret (v := .agg #[.int .i64 off, .bool sav, .string nm, .slice av offs.length cv, .int .i64 jump]) (by simp [results, Tryz.results56, go_sem, hz, hz0, r0, r1, r2, r3, r4]) rfl ⟨_, rfl, ?_, ?_⟩
  · have h2 := HS.out
    refine ownsRow_base (B := W2.heap.size) (by omega) ?_
    exact ownsRow_setCell_below (ownsRow_setCell_below (ownsRow_setCell_below (ownsRow_setCell_below (ownsRow_setCell_below (ownsRow_setCell_below HO.out (by show w.heap.size < _; omega) _) (by show w.heap.size + 1 < _; omega) _) (by show w.heap.size + 1 < _; omega) _) (by show w.heap.size + 1 < _; omega) _) (by show w.heap.size + 1 < _; omega) _) (by show w.heap.size + 1 < _; omega) _
  · exact (((((HB.out.setCell (by show w.heap.size ≤ w.heap.size; omega) _).setCell (by show w.heap.size ≤ w.heap.size + 1; omega) _).setCell (by show w.heap.size ≤ w.heap.size + 1; omega) _).setCell (by show w.heap.size ≤ w.heap.size + 1; omega) _).setCell (by show w.heap.size ≤ w.heap.size + 1; omega) _).setCell (by show w.heap.size ≤ w.heap.size + 1; omega) _
end Go.Proofs.YtbikdlcjbigafaaGreatDoor
namespace Go.Proofs.YtbikdlcjbigafaaGreatDoor
set_option linter.unusedVariables false
set_option linter.unusedSimpArgs false
open Go.ChangeShapes Go.WideShapes Go.ChangeAt Go.RowKit

end Go.Proofs.YtbikdlcjbigafaaGreatDoor
namespace Go.Proofs.YtbikdlcjbigafaaGreatDoor
set_option linter.unusedVariables false
set_option linter.unusedSimpArgs false
open Go.ChangeShapes Go.WideShapes Go.ChangeAt Go.RowKit

theorem frs_good {f : Frs} (h : frsE f = 0) : 0 < f.nodes.length ∧ f.nodes.length ≤ 8000 ∧ f.answers.length ≤ 2000 ∧ (∀ i (hi : i < f.answers.length), ansE f.answers[i] = 0) ∧ (∀ i (hi : i < f.nodes.length), nodE f.answers.length (i : Nat) f.nodes[i] = 0) := by
  unfold frsE at h
  by_cases h0 : f.nodes.length = 0
  · rw [if_pos h0] at h; omega
  · rw [if_neg h0] at h
    by_cases h1 : 8000 < f.nodes.length ∨ 2000 < f.answers.length
    · rw [if_pos h1] at h; omega
    · rw [if_neg h1] at h
      by_cases h2 : anssE f.answers = 0
      · rw [if_neg (by simpa using h2)] at h
        refine ⟨by omega, by omega, by omega, fun i hi => ?_, fun i hi => ?_⟩
        · have := ferr_all _ _ _ h2 i hi; exact this
        · have := ferr_all _ _ _ h i hi; simpa using this
      · rw [if_pos h2] at h; exact absurd h h2
/-- a world in which the two boxes of Eval stand: the forest's and the result's. -/
structure EvAt (w w1 : World) (vn va : Value) : Prop where
  q0 : w1.cell? ⟨w.heap.size, 0, none⟩ = some vn
  q1 : w1.cell? ⟨w.heap.size, 1, none⟩ = some va
  r0 : w1.cell? ⟨w.heap.size + 1, 0, none⟩ = some (.int .i64 0)
  r1 : w1.cell? ⟨w.heap.size + 1, 1, none⟩ = some (.bool false)
  r2 : w1.cell? ⟨w.heap.size + 1, 2, none⟩ = some (.string ⟨#[]⟩)
  r3 : w1.cell? ⟨w.heap.size + 1, 3, none⟩ = some (.slice none 0 0)
  r4 : w1.cell? ⟨w.heap.size + 1, 4, none⟩ = some (.int .i64 0)
  f1 : ∀ j, w1.frozen? ⟨w.heap.size + 1, j, none⟩ = false
  hz : w.heap.size + 1 < w1.heap.size
  hb : Below w.heap.size w w1
theorem EvAt.new (w : World) (vn va : Value) : EvAt w ((w.alloc (.cells #[vn, va] 74)).alloc (.cells #[.int .i64 0, .bool false, .string ⟨#[]⟩, .slice none 0 0, .int .i64 0] 79)) vn va := by
  obtain ⟨hs, b0, b1, g0, g1⟩ := two_new w #[vn, va] #[.int .i64 0, .bool false, .string ⟨#[]⟩, .slice none 0 0, .int .i64 0] 74 79
  exact ⟨b0 0, b0 1, b1 0, b1 1, b1 2, b1 3, b1 4, g1, by omega, ((Below.refl _ _).alloc (Nat.le_refl _) _).alloc (size_le_push_ w _) _⟩
theorem EvAt.below {w w1 w2 : World} {vn va : Value} (h : EvAt w w1 vn va) (g : Below w1.heap.size w1 w2) : EvAt w w2 vn va := by
  obtain ⟨hc, hf⟩ := bcell g
  have hz := h.hz
  have hz0 : w.heap.size < w1.heap.size := by omega
  exact ⟨(hc _ _ hz0).trans h.q0, (hc _ _ hz0).trans h.q1, (hc _ _ hz).trans h.r0, (hc _ _ hz).trans h.r1, (hc _ _ hz).trans h.r2, (hc _ _ hz).trans h.r3, (hc _ _ hz).trans h.r4, fun j => (hf _ _ hz).trans (h.f1 j), Nat.lt_of_lt_of_le hz g.size, h.hb.trans (g.mono h.hb.size)⟩
end Go.Proofs.YtbikdlcjbigafaaGreatDoor
namespace Go.Proofs.YtbikdlcjbigafaaGreatDoor
set_option linter.unusedVariables false
set_option linter.unusedSimpArgs false
open Go.ChangeShapes Go.WideShapes Go.ChangeAt Go.RowKit

theorem EvAt.drew {w w1 : World} {vn va : Value} (h : EvAt w w1 vn va) : EvAt w w1.drew vn va :=
  ⟨h.q0, h.q1, h.r0, h.r1, h.r2, h.r3, h.r4, h.f1, h.hz, h.hb.drew⟩
set_option maxHeartbeats 4000000 in
theorem eval_ok (f : Frs) (vn va : Value) (t : Int) (i : Nat) (w : World) (hf : FrsAt w vn va f) (h0 : frsE f = 0) (hL : Lf f.nodes t (f.nodes.length - 1) i) (hi : i < f.answers.length) :
    Calls Tryz.prog 25 #[.agg #[vn, va], .int .i64 t] w fun e w' => ∃ v', e = .returned (.tuple #[.agg #[.int .i64 f.answers[i].ck.off, .bool f.answers[i].ck.sav, .string f.answers[i].ck.nm, v', .int .i64 f.answers[i].jump], .int .i64 0]) ∧ w'.ownsRow w.heap.size 3 1 v' f.answers[i].offs.length (f.answers[i].offs.flatMap encI) ∧ Below w.heap.size w w' := by
  obtain ⟨g0, g1, g2, g3, g4⟩ := frs_good h0
  have go := ansE_offs (g3 i hi)
  have hr : f.answers[i].offs.length * 8 ≤ 140737488355328 := by omega
  have hlen : f.nodes.length - 1 + 1 = f.nodes.length := by omega
  obtain ⟨aa, ca, rfl, la⟩ := hf.2.shape
  obtain ⟨b, off, vo, rfl, hbb, ⟨c0, c1, c2, c3, c4⟩, hvo, hnm, _, _⟩ := elemAns hf.2 i hi
  obtain ⟨ao, co, rfl, lo⟩ := hvo.shape
  have la' := maxLen_eq _ la
  have HF := Lib.hid hf
  have HV := Lib.hid hvo
  have HL := Lib.hid hL
  have HK := Lib.hid g4
  have H0 := Lib.hid h0
  have HN := Lib.hid hlen
  have HRr := Lib.hid hr
  have E := EvAt.new w vn (.slice (some ⟨b, off, none⟩) f.answers.length ca)
  have hii : (i : Int) < (f.answers.length : Int) := by omega
  have hin : (0 : Int) ≤ (i : Int) := by omega
  clear hf hvo hL g0 g1 g2 g3 g4 go h0 hlen lo hr la
  generalize f.answers[i] = x at *
  go_enter Tryz.func25, Tryz.ntmps25
  go_wp2_with fail
  refine (check_any f _ _ _ (HF.out.mono E.hb)).mono ?_; rintro e w1 ⟨rfl, hb1⟩
  have E1 := E.below hb1
  rw [H0.out]
  clear E hb1
  have E1d := E1.drew
  obtain ⟨q0, q1, r0, r1, r2, r3, r4, f1, hz, hbw⟩ := E1
  obtain ⟨hc, hf⟩ := bcell hbw
  have d0 := (hc _ (off + i * 5) hbb).trans c0
  have d1 := (hc _ (off + i * 5 + 1) hbb).trans c1
  have d2 := (hc _ (off + i * 5 + 2) hbb).trans c2
  have d3 := (hc _ (off + i * 5 + 3) hbb).trans c3
  have d4 := (hc _ (off + i * 5 + 4) hbb).trans c4
  clear c0 c1 c2 c3 c4 hc hf
  have hne1 : ¬ b = w.heap.size + 1 := by omega
  have hne2 : ¬ w.heap.size + 1 = b := by omega
  go_wp2
  go_region_held3 (fun w' => w'.cell? ⟨w.heap.size, 0, none⟩ = some vn ∧ w'.cell? ⟨w.heap.size, 1, none⟩ = some (.slice (some ⟨b, off, none⟩) f.answers.length ca) ∧ w'.cell? ⟨b, off + i * 5, none⟩ = some (.int .i64 x.ck.off) ∧ w'.cell? ⟨b, off + i * 5 + 1, none⟩ = some (.bool x.ck.sav) ∧ w'.cell? ⟨b, off + i * 5 + 2, none⟩ = some (.string x.ck.nm) ∧ w'.cell? ⟨b, off + i * 5 + 3, none⟩ = some (.slice ao x.offs.length co) ∧ w'.cell? ⟨b, off + i * 5 + 4, none⟩ = some (.int .i64 x.jump))
    (first | (with_reducible exact ⟨q0, q1, d0, d1, d2, d3, d4⟩) | (with_reducible exact ⟨s0, s1, k0, k1, k2, k3, k4⟩) | (with_reducible exact ⟨S0, S1, K0, K1, K2, K3, K4⟩) | go_keep)
    (first | (go_at_call 57; refine (leaf_any f _ _ t (f.nodes.length - 1) i _ HK.out HN.out HL.out _ (HF.out.mono hbw.drew)).mono ?_; rintro e w5 ⟨rfl, hb5⟩; have s0 := (hb5.cell (p := ⟨w.heap.size, 0, none⟩) (show w.heap.size < w1.heap.size by omega)).trans q0; have s1 := (hb5.cell (p := ⟨w.heap.size, 1, none⟩) (show w.heap.size < w1.heap.size by omega)).trans q1; have hbz : b < w1.heap.size := (by omega); have k0 := (hb5.cell (p := ⟨b, off + i * 5, none⟩) hbz).trans d0; have k1 := (hb5.cell (p := ⟨b, off + i * 5 + 1, none⟩) hbz).trans d1; have k2 := (hb5.cell (p := ⟨b, off + i * 5 + 2, none⟩) hbz).trans d2; have k3 := (hb5.cell (p := ⟨b, off + i * 5 + 3, none⟩) hbz).trans d3; have k4 := (hb5.cell (p := ⟨b, off + i * 5 + 4, none⟩) hbz).trans d4; have E5 := E1d.below hb5; clear hb5 q0 q1 r0 r1 r2 r3 r4 f1 d0 d1 d2 d3 d4) | (go_at_call 56; refine (clone_any x _ _ (HV.out.mono E5.hb fun _ _ h => h) HRr.out).mono ?_; rintro e w6 ⟨v', rfl, hown, hb6⟩; have S0 := (hb6.cell (p := ⟨w.heap.size, 0, none⟩) (show w.heap.size < w5.heap.size by have := E5.hz; omega)).trans s0; have S1 := (hb6.cell (p := ⟨w.heap.size, 1, none⟩) (show w.heap.size < w5.heap.size by have := E5.hz; omega)).trans s1; have hbz5 : b < w5.heap.size := (by have := E5.hb.size; omega); have K0 := (hb6.cell (p := ⟨b, off + i * 5, none⟩) hbz5).trans k0; have K1 := (hb6.cell (p := ⟨b, off + i * 5 + 1, none⟩) hbz5).trans k1; have K2 := (hb6.cell (p := ⟨b, off + i * 5 + 2, none⟩) hbz5).trans k2; have K3 := (hb6.cell (p := ⟨b, off + i * 5 + 3, none⟩) hbz5).trans k3; have K4 := (hb6.cell (p := ⟨b, off + i * 5 + 4, none⟩) hbz5).trans k4; have E6 := E5.below hb6; have hb56 := E5.hz; obtain ⟨av, cv, rfl⟩ := own_shape hown; obtain ⟨_, _, R0, R1, R2, R3, R4, F1, HZ, HBW⟩ := E6; clear hb6 E5 s0 s1 k0 k1 k2 k3 k4))
  go_wp2
  refine bodyPost_ret (v := .tuple #[.agg #[.int .i64 x.ck.off, .bool x.ck.sav, .string x.ck.nm, .slice av x.offs.length cv, .int .i64 x.jump], .int .i64 0]) (by simp [results, Tryz.results25, go_sem, HZ, R0, R1, R2, R3, R4]) rfl ⟨_, rfl, ?_, five_below HBW (by omega) _ _ _ _ _⟩
  exact ownsRow_base (by omega) (five_own hown hb56 _ _ _ _ _)
end Go.Proofs.YtbikdlcjbigafaaGreatDoor
namespace Go.Proofs.YtbikdlcjbigafaaGreatDoor
set_option linter.unusedVariables false
set_option linter.unusedSimpArgs false
open Go.ChangeShapes Go.WideShapes Go.ChangeAt Go.RowKit

theorem SlAt_nil (w : World) : SlAt w 1 RInt (.slice none 0 0) [] := .inl ⟨none, 0, rfl, rfl⟩
end Go.Proofs.YtbikdlcjbigafaaGreatDoor
namespace Go.Proofs.YtbikdlcjbigafaaGreatDoor
set_option linter.unusedVariables false
set_option linter.unusedSimpArgs false
open Go.ChangeShapes Go.WideShapes Go.ChangeAt Go.RowKit

structure Pc where
  fr : Int
  an : Int
def leafN (a : Int) : Nod := ⟨true, a, 0, 0, 0⟩
def askN (b l m : Int) : Nod := ⟨false, 0, b, l, m⟩
def chN : List Pc → List Nod
  | [] => []
  | [p] => [leafN p.an]
  | p :: q :: r => chN (q :: r) ++ [leafN p.an, askN q.fr (chN (q :: r)).length ((chN (q :: r)).length - 1 : Nat)]
theorem chN_cons (p q : Pc) (r : List Pc) : chN (p :: q :: r) = chN (q :: r) ++ [leafN p.an, askN q.fr (chN (q :: r)).length ((chN (q :: r)).length - 1 : Nat)] := rfl
theorem chN_len : ∀ (p : Pc) (r : List Pc), (chN (p :: r)).length = 2 * r.length + 1
  | p, [] => rfl
  | p, q :: r => by rw [chN_cons, List.length_append, chN_len q r]; simp; omega
theorem Lf.append {ns : List Nod} (ms : List Nod) {t : Int} {i : Nat} {a : Int} (h : Lf ns t i a) : Lf (ns ++ ms) t i a := by
  induction h with
  | leaf i h e =>
    have e1 : (ns ++ ms)[i]'(by rw [List.length_append]; omega) = ns[i] := List.getElem_append_left h
    have := Lf.leaf (ns := ns ++ ms) (t := t) i (by rw [List.length_append]; omega) (by rw [e1]; exact e)
    rw [e1] at this
    exact this
  | less i k a h e c hk hl r ih =>
    have e1 : (ns ++ ms)[i]'(by rw [List.length_append]; omega) = ns[i] := List.getElem_append_left h
    exact Lf.less i k a (by rw [List.length_append]; omega) (by rw [e1]; exact e) (by rw [e1]; exact c) (by rw [e1]; exact hk) hl ih
  | more i k a h e c hk hl r ih =>
    have e1 : (ns ++ ms)[i]'(by rw [List.length_append]; omega) = ns[i] := List.getElem_append_left h
    exact Lf.more i k a (by rw [List.length_append]; omega) (by rw [e1]; exact e) (by rw [e1]; exact c) (by rw [e1]; exact hk) hl ih
theorem chN_last (p q : Pc) (r : List Pc) : ∃ h : 2 * r.length + 2 < (chN (p :: q :: r)).length, (chN (p :: q :: r))[2 * r.length + 2] = askN q.fr (2 * r.length + 1 : Nat) (2 * r.length : Nat) := by
  refine ⟨by rw [chN_len, List.length_cons]; omega, ?_⟩
  have hl := chN_len q r
  simp only [chN_cons]
  rw [List.getElem_append_right (by rw [hl]; omega)]
  simp only [hl, show 2 * r.length + 2 - (2 * r.length + 1) = 1 from by omega]
  rfl
theorem chN_prev (p q : Pc) (r : List Pc) : ∃ h : 2 * r.length + 1 < (chN (p :: q :: r)).length, (chN (p :: q :: r))[2 * r.length + 1] = leafN p.an := by
  refine ⟨by rw [chN_len, List.length_cons]; omega, ?_⟩
  have hl := chN_len q r
  simp only [chN_cons]
  rw [List.getElem_append_right (by rw [hl]; omega)]
  simp only [hl, Nat.sub_self]
  rfl
/-- which piece a chain tells. -/
theorem chain_lf (t : Int) : ∀ (ps : List Pc) (i : Nat) (h : i < ps.length), (∀ j (hj : j < ps.length), i < j → t < ps[j].fr) → (∀ j (hj : j < ps.length), 1 ≤ j → j ≤ i → ps[j].fr ≤ t) → Lf (chN ps) t ((chN ps).length - 1) ps[i].an
  | [], i, h, _, _ => by simp at h
  | [p], i, h, _, _ => by
    obtain rfl : i = 0 := by simpa using h
    exact Lf.leaf (ns := chN [p]) 0 (by simp [chN]) rfl
  | p :: q :: r, i, h, h1, h2 => by
    obtain ⟨hl, el⟩ := chN_last p q r
    obtain ⟨hp, ep⟩ := chN_prev p q r
    have hlen := chN_len p (q :: r)
    rw [show (chN (p :: q :: r)).length - 1 = 2 * r.length + 2 from by rw [hlen, List.length_cons]; omega]
    match i, h, h1, h2 with
    | 0, h, h1, h2 =>
      have hq := h1 1 (by simp) (by omega)
      refine Lf.less _ (2 * r.length + 1) _ hl (by rw [el]; rfl) (by rw [el]; exact hq) (by rw [el]; rfl) (by omega) ?_
      have := Lf.leaf (ns := chN (p :: q :: r)) (t := t) (2 * r.length + 1) hp (by rw [ep]; rfl)
      rw [ep] at this
      exact this
    | i + 1, h, h1, h2 =>
      have hq := h2 1 (by simp) (by omega) (by omega)
      have ih := chain_lf t (q :: r) i (by simpa using h) (fun j hj hij => h1 (j + 1) (by simpa using hj) (by omega)) (fun j hj a b => h2 (j + 1) (by simpa using hj) (by omega) (by omega))
      rw [show (chN (q :: r)).length - 1 = 2 * r.length from by rw [chN_len]; omega] at ih
      refine Lf.more _ (2 * r.length) _ hl (by rw [el]; rfl) (by rw [el]; exact hq) (by rw [el]; rfl) (by omega) ?_
      rw [chN_cons]
      exact ih.append _
theorem chN_good (m : Int) : ∀ (ps : List Pc), (∀ p ∈ ps, 0 ≤ p.an ∧ p.an < m) → ∀ i (hi : i < (chN ps).length), nodE m (i : Nat) (chN ps)[i] = 0
  | [], _, i, hi => by simp [chN] at hi
  | [p], h, i, hi => by
    obtain rfl : i = 0 := by simpa [chN] using hi
    have := h p (by simp)
    show nodE m _ (leafN p.an) = 0
    unfold nodE leafN
    rw [if_pos rfl, if_neg (by dsimp only; omega), if_neg (by simp)]
  | p :: q :: r, h, i, hi => by
    have hl := chN_len q r
    have hL := chN_len p (q :: r)
    by_cases h1 : i < (chN (q :: r)).length
    · have ih := chN_good m (q :: r) (fun x hx => h x (by simp [List.mem_cons] at hx ⊢; right; exact hx)) i h1
      have e : (chN (p :: q :: r))[i] = (chN (q :: r))[i] := by simp only [chN_cons]; exact List.getElem_append_left h1
      rw [e]; exact ih
    · by_cases h2 : i = 2 * r.length + 1
      · subst h2
        obtain ⟨hp, ep⟩ := chN_prev p q r
        have := h p (by simp)
        rw [ep]
        unfold nodE leafN
        rw [if_pos rfl, if_neg (by dsimp only; omega), if_neg (by simp)]
      · have h3 : i = 2 * r.length + 2 := by rw [hL] at hi; rw [hl] at h1; simp at hi; omega
        subst h3
        obtain ⟨hp, ep⟩ := chN_last p q r
        rw [ep]
        unfold nodE askN
        rw [if_neg (by simp), if_neg (by simp), if_neg (by dsimp only; omega)]
end Go.Proofs.YtbikdlcjbigafaaGreatDoor
namespace Go.Proofs.YtbikdlcjbigafaaGreatDoor
set_option linter.unusedVariables false
set_option linter.unusedSimpArgs false
open Go.ChangeShapes Go.WideShapes Go.ChangeAt Go.RowKit

def pkv (n many : Int) : Int := (if n < 0 then -(n + 1) else n) % many
theorem picked_v (n many : Int) (w : World) (hn : (Lit.int .i64 n).wf = true) (h1 : 1 ≤ many) (h2 : many ≤ 9000000000) :
    Calls Tryz.prog 12 #[.int .i64 n, .int .i64 many] w fun e w' => e = .returned (.int .i64 (pkv n many)) ∧ w = w' := by
  obtain ⟨b1, b2⟩ := bounds_i64 hn
  clear hn
  by_cases h : n < 0
  · have hp : -(n + 1).tmod many = pkv n many := by
      unfold pkv; rw [if_pos h, ← Int.tmod_eq_emod_of_nonneg (by omega), Int.neg_tmod]
    have HP := Lib.hid hp
    clear hp
    go_enter Tryz.func12, Tryz.ntmps12
    go_wp2
    go_ret
    exact ⟨ret_int HP.out, rfl⟩
  · have hp : n % many = pkv n many := by unfold pkv; rw [if_neg h]
    have HP := Lib.hid hp
    clear hp
    go_enter Tryz.func12, Tryz.ntmps12
    go_wp2
    go_ret
    exact ⟨ret_int HP.out, rfl⟩
end Go.Proofs.YtbikdlcjbigafaaGreatDoor
namespace Go.Proofs.YtbikdlcjbigafaaGreatDoor
set_option linter.unusedVariables false
set_option linter.unusedSimpArgs false
open Go.ChangeShapes Go.WideShapes Go.ChangeAt Go.RowKit

end Go.Proofs.YtbikdlcjbigafaaGreatDoor
namespace Go.Proofs.YtbikdlcjbigafaaGreatDoor
set_option linter.unusedVariables false
set_option linter.unusedSimpArgs false
open Go.ChangeShapes Go.WideShapes Go.ChangeAt Go.RowKit

def encN (x : Nod) : List Value := [.bool x.lf, .int .i64 x.an, .int .i64 x.bd, .int .i64 x.ls, .int .i64 x.mr]
def encP (x : Pc) : List Value := [.int .i64 x.fr, .int .i64 x.an]
def RPc (cs : List Value) (x : Pc) : Prop := cs = encP x
theorem info_node : (Tryz.prog.info? 168).map (fun i => (i.zero, i.size, i.bytes)) = some (some (.agg #[.bool false, .int .i64 0, .int .i64 0, .int .i64 0, .int .i64 0]), 5, 40) := by kernel_rfl
theorem encN_one (x : Nod) : ∀ u ∈ encN x, u.oneCell' = true := by
  intro u hu
  simp [encN] at hu
  rcases hu with rfl | rfl | rfl | rfl | rfl <;> rfl
theorem encP_one (x : Pc) : ∀ u ∈ encP x, u.oneCell' = true := by
  intro u hu
  simp [encP] at hu
  rcases hu with rfl | rfl <;> rfl
set_option maxRecDepth 100000 in
set_option maxHeartbeats 1000000 in
theorem chain1_any (nd : Nod) (o B : Nat) (v : Value) (xs : List Nod) (w : World) (hoB : o < B) (hB : B ≤ w.heap.size) (hc : w.cell? ⟨o, 0, none⟩ = some v) (hf : w.frozen? ⟨o, 0, none⟩ = false) (hown : w.ownsRow B 168 5 v xs.length (xs.flatMap encN)) (hl : xs.length ≤ 20000) :
    Calls Tryz.prog 90 #[.agg #[.bool nd.lf, .int .i64 nd.an, .int .i64 nd.bd, .int .i64 nd.ls, .int .i64 nd.mr], .pointer (some ⟨o, 0, none⟩)] w fun e w' => e = .returned (.int .i64 (xs.length : Nat)) ∧ ∃ v', w'.cell? ⟨o, 0, none⟩ = some v' ∧ w'.frozen? ⟨o, 0, none⟩ = false ∧ w'.ownsRow B 168 5 v' (xs ++ [nd]).length ((xs ++ [nd]).flatMap encN) ∧ Below o w w' := by
  obtain ⟨i0, hi, hz0, hz1, hz2⟩ := info_parts info_node
  obtain ⟨av, cv, rfl⟩ := own_shape hown
  have hoz : o < w.heap.size := by omega
  go_enter Tryz.func90, Tryz.ntmps90
  go_wp2_with (at_builtin; refine wpList_append_own _ rfl _ _ 71 rfl B 168 i0 (.agg #[.bool false, .int .i64 0, .int .i64 0, .int .i64 0, .int .i64 0]) 5 40 Tryz.underlying71 hi hz0 hz1 hz2 rfl (by decide) _ _ _ rfl ((hown.alloc _).alloc _) ⟨w.heap.size + 1, 0, none⟩ 1 1 (encN nd) rfl rfl (cells_at _ _ _ _ _ (size_alloc _ _).symm rfl) (encN_one nd) (by unfold maxLen; omega) (by omega) (by rw [size_alloc]; rw [size_alloc]; omega) ?_; intro v' w1 hown' hgrow _; obtain ⟨a2, c2, rfl⟩ := own_shape hown'; have hB2 := append_keep hown (below_alloc2 hB _ _) hB hgrow; obtain ⟨q0, q1, hz⟩ := cell_keep hB2 hB hoB hc hf; have HO := Lib.hid (own_snocG hown'); have HB := Lib.hid (hB2.mono (Nat.le_of_lt hoB)); clear hown' hgrow hB2 hc hf)
  go_ret
  refine ⟨rfl, _, World.cell?_setCell_same (h := q0) .., ?_, ?_, ?_⟩
  · rw [World.frozen?_setCell]; exact q1
  · exact ownsRow_setCell_below HO.out hoB _
  · exact HB.out.setCell (Nat.le_refl _) _
end Go.Proofs.YtbikdlcjbigafaaGreatDoor
namespace Go.Proofs.YtbikdlcjbigafaaGreatDoor
set_option linter.unusedVariables false
set_option linter.unusedSimpArgs false
open Go.ChangeShapes Go.WideShapes Go.ChangeAt Go.RowKit

theorem elemPc {w : World} {aa : Option Addr} {n ca : Nat} {xs : List Pc} (h : SlAt w 2 RPc (.slice aa n ca) xs) (k : Nat) (hk : k < xs.length) :
    ∃ b off, aa = some ⟨b, off, none⟩ ∧ b < w.heap.size ∧ (w.cell? ⟨b, off + k * 2, none⟩ = some (.int .i64 xs[k].fr) ∧ w.cell? ⟨b, off + k * 2 + 1, none⟩ = some (.int .i64 xs[k].an)) := by
  rcases h with ⟨a, cap, hv, rfl⟩ | ⟨b, off, cap, hv, h0, h1, h2, h3, h4⟩
  · simp at hk
  · obtain ⟨cs, _, rfl, c3⟩ := h4 k hk
    simp only [Value.slice.injEq] at hv
    exact ⟨b, off, hv.1, h3, ⟨c3 0 (by omega), c3 1 (by omega)⟩⟩
theorem drop_two {α : Type} (xs : List α) (j : Nat) (h : j + 1 < xs.length) : xs.drop j = xs[j] :: xs[j + 1] :: xs.drop (j + 2) := by
  rw [List.drop_eq_getElem_cons (by omega), List.drop_eq_getElem_cons (by omega)]
theorem chN_drop (ps : List Pc) (j : Nat) (h : j + 1 < ps.length) : chN (ps.drop j) = chN (ps.drop (j + 1)) ++ [leafN ps[j].an, askN ps[j + 1].fr (chN (ps.drop (j + 1))).length ((chN (ps.drop (j + 1))).length - 1 : Nat)] := by
  rw [drop_two ps j h, chN_cons, ← List.drop_eq_getElem_cons (show j + 1 < ps.length by omega)]
theorem chN_dlen (ps : List Pc) (j : Nat) (h : j < ps.length) : (chN (ps.drop j)).length = 2 * (ps.length - 1 - j) + 1 := by
  rw [List.drop_eq_getElem_cons h, chN_len, List.length_drop]; omega
set_option maxRecDepth 100000 in
set_option maxHeartbeats 2000000 in
theorem chain_any (v : Value) (ps : List Pc) (w : World) (hv : SlAt w 2 RPc v ps) (h0 : 0 < ps.length) (h1 : ps.length ≤ 9000) :
    Calls Tryz.prog 49 #[v] w fun e w' => ∃ v', e = .returned v' ∧ w'.ownsRow w.heap.size 168 5 v' (chN ps).length ((chN ps).flatMap encN) ∧ Below w.heap.size w w' := by
  obtain ⟨an, cn, rfl, ln⟩ := hv.shape
  obtain ⟨b, off, rfl, hbb, cU, c1⟩ := elemPc hv (ps.length - 1) (by omega)
  clear cU
  obtain ⟨x, hlast⟩ : ∃ x, x = ps[ps.length - 1] := ⟨_, rfl⟩
  rw [← hlast] at c1
  have HL := Lib.hid hlast
  clear hlast
  have HV := Lib.hid hv
  have t1 : ((ps.length : Int) - 1).toNat = ps.length - 1 := by omega
  have t2 : (0 : Int) ≤ (ps.length : Int) - 1 := by omega
  have t3 : (ps.length : Int) - 1 < (ps.length : Int) := by omega
  have hx0 : (0 : Int) < (ps.length : Int) := by omega
  have hx1 : (ps.length : Int) ≤ 9000 := by omega
  have HX0 := Lib.hid h0
  have HX1 := Lib.hid h1
  clear hv ln
  have bw : Below w.heap.size w (w.alloc (.cells #[.slice none 0 0] 71)) := (Below.refl _ _).alloc (Nat.le_refl _) _
  have hw1 := size_alloc w (.cells #[.slice none 0 0] 71)
  have z0 : (w.alloc (.cells #[.slice none 0 0] 71)).cell? ⟨w.heap.size, 0, none⟩ = some (.slice none 0 0) := World.cell?_alloc_at (w := w) _ _ w.heap.size 0 rfl
  have z1 : (w.alloc (.cells #[.slice none 0 0] 71)).frozen? ⟨w.heap.size, 0, none⟩ = false := World.frozen?_alloc_at (w := w) _ _ w.heap.size 0 rfl
  have HW := Lib.hid hw1
  have HZ0 := Lib.hid z0
  have HZ1 := Lib.hid z1
  clear hw1 z0 z1
  go_enter Tryz.func49, Tryz.ntmps49
  go_wp2_with fail
  refine (chain1_any (leafN x.an) w.heap.size (w.heap.size + 1) (.slice none 0 0) [] _ (by omega) (by rw [HW.out]; exact Nat.le_refl _) HZ0.out HZ1.out (World.ownsRow_nil _ _ _ _) (by simp)).mono ?_
  rintro e w1 ⟨rfl, v1, k0, k1, hown, hb1⟩
  have hB1 := bw.trans hb1
  have hs1 : w.heap.size + 1 ≤ w1.heap.size := by have := hb1.size; rw [HW.out] at this; exact this
  have HO : Hid (w1.ownsRow (w.heap.size + 1) 168 5 v1 (chN (ps.drop (ps.length - 1))).length ((chN (ps.drop (ps.length - 1))).flatMap encN)) := by
    have e : chN (ps.drop (ps.length - 1)) = [] ++ [leafN x.an] := by
      rw [List.drop_eq_getElem_cons (show ps.length - 1 < ps.length by omega), show ps.length - 1 + 1 = ps.length from by omega, List.drop_length, ← HL.out]
      rfl
    rw [e]
    exact hown
  clear hown hb1 bw HW HZ0 HZ1
  have hm2 : Hid ((ps.length : Int) - 2 = ((ps.length - 1 : Nat) : Int) - 1) := by show _ = _; omega
  go_wp2
  go_loopw [5, 6] (fun r i wr => ∃ (j : Nat) (I : Int) (R : Nat), j + 1 ≤ ps.length ∧ i = .int .i64 I ∧ Hid (I = (j : Int) - 1) ∧ r = .int .i64 (R : Int) ∧ Hid (R = 2 * (ps.length - 1 - j)) ∧ Below w.heap.size w wr ∧ w.heap.size + 1 ≤ wr.heap.size ∧ ∃ v, wr.cell? ⟨w.heap.size, 0, none⟩ = some v ∧ wr.frozen? ⟨w.heap.size, 0, none⟩ = false ∧ Hid (wr.ownsRow (w.heap.size + 1) 168 5 v (chN (ps.drop j)).length ((chN (ps.drop j)).flatMap encN))) (fun _ i _ => (intOf i + 1).toNat)
  case atStart => exact ⟨ps.length - 1, _, 0, by omega, rfl, hm2, rfl, (by show 0 = _; omega), hB1, hs1, v1, k0, k1, HO⟩
  case round =>
    obtain ⟨j, I, R, hj, rfl, hI, rfl, hR, hbr, hsz, v, q0, q1, hown⟩ := hrel
    obtain ⟨av, cv, rfl⟩ := own_shape hown.out
    have hoz : w.heap.size < wr.heap.size := by omega
    rcases Nat.eq_zero_or_pos j with hj0 | hj0
    · have hneg : I < 0 := by have := hI.out; omega
      have hd : ps.drop j = ps := by rw [hj0]; rfl
      have HO2 : Hid (wr.ownsRow (w.heap.size + 1) 168 5 (.slice av (chN (ps.drop j)).length cv) (chN ps).length ((chN ps).flatMap encN)) := by
        have := hown.out
        rw [hd] at this ⊢
        exact this
      clear hd hj0 hI
      go_wp2
      go_ret
      exact ⟨_, rfl, ownsRow_base (by omega) HO2.out, hbr⟩
    · obtain ⟨k, rfl⟩ : ∃ k, j = k + 1 := ⟨j - 1, by omega⟩
      obtain rfl : I = (k : Int) := by have := hI.out; omega
      obtain ⟨b', o', hbo, _, c0, c2⟩ := elemPc HV.out k (by omega)
      obtain ⟨rfl, rfl⟩ : b = b' ∧ off = o' := by simpa using hbo
      obtain ⟨b', o', hbo2, _, c3, c4⟩ := elemPc HV.out (k + 1) (by omega)
      obtain ⟨rfl, rfl⟩ : b = b' ∧ off = o' := by simpa using hbo2
      have hcd := Lib.hid (chN_drop ps k (by omega))
      have hdl := Lib.hid (chN_dlen ps (k + 1) (by omega))
      have d2 := (hbr.cell (p := ⟨b, off + k * 2 + 1, none⟩) hbb).trans c2
      have d3 := (hbr.cell (p := ⟨b, off + (k + 1) * 2, none⟩) hbb).trans c3
      have hcnt : (chN (ps.drop (k + 1))).length ≤ 18000 := by rw [hdl.out]; omega
      have hRl : Hid (R + 1 = (chN (ps.drop (k + 1))).length) := by have := hR.out; have := hdl.out; show _ = _; omega
      have hR2 := Lib.hid (show R + 2 = 2 * (ps.length - 1 - k) by have := hR.out; omega)
      generalize hp : ps[k] = p at *
      generalize hq : ps[k + 1] = q at *
      generalize hns : chN (ps.drop (k + 1)) = ns at *
      clear hp hq hns c0 c2 c3 c4 hI hR hdl hbo hbo2 hj0
      have u1 : ((k : Int) + 1).toNat = k + 1 := by omega
      have u2 : (0 : Int) ≤ (k : Int) + 1 := by omega
      have u3 : (k : Int) + 1 < (ps.length : Int) := by omega
      go_wp2_with fail
      refine (chain1_any (leafN p.an) w.heap.size (w.heap.size + 1) _ ns _ (by omega) hsz q0 q1 hown.out (by omega)).mono ?_
      rintro e w2 ⟨rfl, v2, s0, s1, hown2, hb2⟩
      obtain ⟨a2, c2, rfl⟩ := own_shape hown2
      have hsz2 := Nat.le_trans hsz hb2.size
      have hbr2 := hbr.trans hb2
      have d4 := (hb2.cell (p := ⟨b, off + (k + 1) * 2, none⟩) hbb).trans d3
      have HO2 := Lib.hid hown2
      clear hown2 hb2 d2 d3 q0 q1 hown hoz
      have hz2 : w.heap.size < w2.heap.size := by omega
      go_wp2_with fail
      refine (chain1_any (askN q.fr ns.length R) w.heap.size (w.heap.size + 1) _ (ns ++ [leafN p.an]) _ (by omega) hsz2 s0 s1 HO2.out (by rw [List.length_append, List.length_singleton]; omega)).mono ?_
      rintro e w3 ⟨rfl, v3, p0, p1, hown3, hb3⟩
      have hsz3 := Nat.le_trans hsz2 hb3.size
      have hbr3 := hbr2.trans hb3
      have hlR : (ns ++ [leafN p.an]).length = R + 2 := by rw [List.length_append, List.length_singleton]; have := hRl.out; omega
      have hRR : ns.length - 1 = R := by have := hRl.out; omega
      have HO3 : Hid (w3.ownsRow (w.heap.size + 1) 168 5 v3 (chN (ps.drop k)).length ((chN (ps.drop k)).flatMap encN)) := by
        have e := hcd.out
        rw [hRR] at e
        have e2 : ns ++ [leafN p.an] ++ [askN q.fr ns.length R] = chN (ps.drop k) := by rw [e, List.append_assoc]; rfl
        rw [e2] at hown3
        exact hown3
      rw [hlR]
      clear hown3 hb3 s0 s1 HO2 hlR hRR hRl hcd d4 hbr hbr2 hsz hsz2
      go_wp2
      go_roundw
      case rel => exact ⟨k, _, R + 2, by omega, rfl, Lib.hid rfl, rfl, hR2, hbr3, hsz3, v3, p0, p1, HO3⟩
      case measure => simp [intOf]
end Go.Proofs.YtbikdlcjbigafaaGreatDoor
namespace Go.Proofs.YtbikdlcjbigafaaGreatDoor
set_option linter.unusedVariables false
set_option linter.unusedSimpArgs false
open Go.ChangeShapes Go.WideShapes Go.ChangeAt Go.RowKit

theorem own_side {wx w' : World} {B n n' sz sz' : Nat} {e e' : TypeId} {v v' : Value} {xs xs' : List Value} {o : Obj} (h : wx.ownsRow B e sz v n xs) (h' : wx.ownsRow B e' sz' v' n' xs') (hne : e ≠ e') (hg : (wx.alloc o).grownBy w' v'.ownBlock) : w'.ownsRow B e sz v n xs := (h.alloc o).kept hg (own_apart h h' hne)
theorem row_low {wo wx w' : World} {B n sz : Nat} {t : TypeId} {v : Value} {xs : List Value} {o : Obj} (hown : wo.ownsRow B t sz v n xs) (hz : B ≤ wx.heap.size) (hg : (wx.alloc o).grownBy w' v.ownBlock) : Below B wx w' :=
  ((Below.refl B wx).alloc hz o).grown hg (Nat.le_trans hz (size_le_push_ wx o)) (fun k hk => (hown.lt k hk).1)
def encW (x : Ans × Value) : List Value := [.int .i64 x.1.ck.off, .bool x.1.ck.sav, .string x.1.ck.nm, x.2, .int .i64 x.1.jump]
theorem encW_one (x : Ans × Value) (hs : ∃ a n c, x.2 = .slice a n c) : ∀ u ∈ encW x, u.oneCell' = true := by
  intro u hu
  obtain ⟨a, n, c, hs⟩ := hs
  simp [encW, hs] at hu
  rcases hu with rfl | rfl | rfl | rfl | rfl <;> rfl
theorem own_mv {w w' : World} {B n sz : Nat} {e : TypeId} {v : Value} {xs : List Value} (h : w.ownsRow B e sz v n xs) (k : ∀ c, B ≤ c → c < w.heap.size → w'.heap[c]? = w.heap[c]?) : w'.ownsRow B e sz v n xs := by
  obtain ⟨h1, h2⟩ := h
  refine ⟨h1, ?_⟩
  rcases h2 with h2 | ⟨g, cap, cur, hv, hg, hh, r⟩
  · exact .inl h2
  · exact .inr ⟨g, cap, cur, hv, hg, (k g hg (Array.getElem?_eq_some_iff.1 hh).1).trans hh, r⟩
/-- a row of answers, each with a row of its offsets. -/
def AnG (w : World) (B : Nat) (va : Value) (l : List (Ans × Value)) : Prop := w.ownsRow B 79 5 va l.length (l.flatMap encW) ∧ ∀ x ∈ l, w.ownsRow B 3 1 x.2 x.1.offs.length (x.1.offs.flatMap encI)
theorem AnG.mv {w w' : World} {B : Nat} {va : Value} {l : List (Ans × Value)} (h : AnG w B va l) (k : ∀ c, B ≤ c → c < w.heap.size → w'.heap[c]? = w.heap[c]?) : AnG w' B va l := ⟨own_mv h.1 k, fun x hx => own_mv (h.2 x hx) k⟩
theorem AnG.nil (w : World) (B : Nat) : AnG w B (.slice none 0 0) [] := ⟨World.ownsRow_nil _ _ _ _, fun x hx => by simp at hx⟩
theorem slAt_via {α β : Type} {w : World} {sz : Nat} {R : List Value → α → Prop} {R' : List Value → β → Prop} {v : Value} {xs : List α} (f : α → β) (h : SlAt w sz R v xs) (hR : ∀ cs, ∀ x ∈ xs, R cs x → R' cs (f x)) : SlAt w sz R' v (xs.map f) := by
  rcases h with ⟨a, cap, hv, rfl⟩ | ⟨b, off, cap, hv, h0, h1, h2, h3, h4⟩
  · exact .inl ⟨a, cap, hv, rfl⟩
  · refine .inr ⟨b, off, cap, by rw [List.length_map]; exact hv, by rw [List.length_map]; exact h0, by rw [List.length_map]; exact h1, h2, h3, fun i hi => ?_⟩
    rw [List.length_map] at hi
    obtain ⟨cs, c1, c2, c3⟩ := h4 i hi
    exact ⟨cs, c1, by rw [List.getElem_map]; exact hR _ _ (List.getElem_mem hi) c2, c3⟩
/-- what an answer must be to lie in memory. -/
def AnO (x : Ans) : Prop := I64 x.ck.off ∧ I64 x.jump ∧ x.ck.nm.size ≤ maxLen ∧ ∀ o ∈ x.offs, I64 o
theorem AnG.at {w : World} {B : Nat} {va : Value} {l : List (Ans × Value)} (h : AnG w B va l) (hok : ∀ x ∈ l.map Prod.fst, AnO x) : SlAt w 5 (RAns w) va (l.map Prod.fst) := by
  obtain ⟨h1, h2⟩ := h
  refine slAt_via Prod.fst (slAt_of_own (enc := encW) (R := fun cs x => cs = encW x) (by omega) (fun _ => rfl) (fun _ _ => rfl) h1) fun cs x hx hc => ?_
  obtain ⟨k1, k2, k3, k4⟩ := hok x.1 (List.mem_map_of_mem hx)
  exact ⟨x.2, hc, ints_of_own k4 (h2 x hx), k1, k2, k3⟩
theorem AnG.snoc {wx w' : World} {B : Nat} {va va' : Value} {l : List (Ans × Value)} {y : Ans × Value} {o : Obj} (h : AnG wx B va l) (hy : wx.ownsRow B 3 1 y.2 y.1.offs.length (y.1.offs.flatMap encI)) (ho : w'.ownsRow B 79 5 va' (l.length + 1) (l.flatMap encW ++ encW y)) (hg : (wx.alloc o).grownBy w' va.ownBlock) : AnG w' B va' (l ++ [y]) := by
  refine ⟨own_snocG ho, fun x hx => ?_⟩
  have k : ∀ {z : Value} {n : Nat} {xs : List Value}, wx.ownsRow B 3 1 z n xs → w'.ownsRow B 3 1 z n xs := fun {z n xs} hz => own_side hz h.1 (by decide) hg
  rcases List.mem_append.1 hx with hx | hx
  · exact k (h.2 x hx)
  · rw [List.mem_singleton.1 hx]; exact k hy
end Go.Proofs.YtbikdlcjbigafaaGreatDoor
namespace Go.Proofs.YtbikdlcjbigafaaGreatDoor
set_option linter.unusedVariables false
set_option linter.unusedSimpArgs false
open Go.ChangeShapes Go.WideShapes Go.ChangeAt Go.RowKit

/-- a value that is no slice. -/
def NSl (u : Value) : Prop := ∀ a n c, u ≠ .slice a n c
/-- a block of slices alone. -/
def SlB (w : World) (b : Nat) : Prop := ∀ j u, w.cell? ⟨b, j, none⟩ = some u → ¬ NSl u
theorem SlAt.apart {α : Type} {w w' : World} {sz b : Nat} {R R' : List Value → α → Prop} {v : Value} {xs : List α} (h : SlAt w sz R v xs) (h0 : 0 < sz) (hR : ∀ cs x, R cs x → R' cs x ∧ ∃ c, cs[0]? = some c ∧ NSl c) (hb : SlB w b) (hw : ∀ c, c ≠ b → w'.heap[c]? = w.heap[c]?) (hs : w.heap.size ≤ w'.heap.size) : SlAt w' sz R' v xs := by
  rcases h with h | ⟨d, off, cap, hv, p0, p1, p2, p3, p4⟩
  · exact .inl h
  · have hne : d ≠ b := fun e => by
      subst e
      obtain ⟨cs, _, q1, q2⟩ := p4 0 p0
      obtain ⟨_, c, q3, q4⟩ := hR _ _ q1
      exact hb _ c ((q2 0 h0).trans q3) q4
    refine .inr ⟨d, off, cap, hv, p0, p1, p2, Nat.lt_of_lt_of_le p3 hs, fun i hi => ?_⟩
    obtain ⟨cs, q0, q1, q2⟩ := p4 i hi
    exact ⟨cs, q0, (hR _ _ q1).1, fun j hj => by rw [World.cell?_of_block (a := ⟨d, _, none⟩) (hw d hne)]; exact q2 j hj⟩
theorem RInt.nsl {cs : List Value} {x : Int} (h : RInt cs x) : RInt cs x ∧ ∃ c, cs[0]? = some c ∧ NSl c := by
  refine ⟨h, ?_⟩
  obtain ⟨rfl, _⟩ := h
  exact ⟨_, rfl, fun a n c e => by cases e⟩
theorem RNod.nsl {cs : List Value} {x : Nod} (h : RNod cs x) : RNod cs x ∧ ∃ c, cs[0]? = some c ∧ NSl c := by
  refine ⟨h, ?_⟩
  obtain ⟨rfl, _⟩ := h
  exact ⟨_, rfl, fun a n c e => by cases e⟩
theorem RAns.nsl {w w' : World} {b : Nat} (hb : SlB w b) (hw : ∀ c, c ≠ b → w'.heap[c]? = w.heap[c]?) (hs : w.heap.size ≤ w'.heap.size) {cs : List Value} {x : Ans} (h : RAns w cs x) : RAns w' cs x ∧ ∃ c, cs[0]? = some c ∧ NSl c := by
  obtain ⟨v, rfl, h1, h2⟩ := h
  exact ⟨⟨v, rfl, h1.apart (by omega) (fun _ _ h => h.nsl) hb hw hs, h2⟩, _, rfl, fun a n c e => by cases e⟩
theorem FrsAt.apart {w w' : World} {vn va : Value} {f : Frs} (h : FrsAt w vn va f) {b : Nat} (hb : SlB w b) (hw : ∀ c, c ≠ b → w'.heap[c]? = w.heap[c]?) (hs : w.heap.size ≤ w'.heap.size) : FrsAt w' vn va f :=
  ⟨h.1.apart (by omega) (fun _ _ h => h.nsl) hb hw hs, h.2.apart (by omega) (fun _ _ h => h.nsl hb hw hs) hb hw hs⟩
/-- a box of slices that was made. -/
theorem SlB.new (w : World) (cs : Array Value) (t : TypeId) (h : ∀ (j : Nat) (u : Value), cs[j]? = some u → ¬ NSl u) : SlB (w.alloc (.cells cs t)) w.heap.size := fun j u hu => by
  rw [World.cell?_alloc_at (w := w) _ _ w.heap.size j rfl] at hu
  exact h j u hu
theorem SlB.below {w w' : World} {b B : Nat} (h : SlB w b) (hb : Below B w w') (hl : b < B) : SlB w' b := fun j u hu => h j u ((hb.cell (p := ⟨b, j, none⟩) hl).symm.trans hu)
end Go.Proofs.YtbikdlcjbigafaaGreatDoor
