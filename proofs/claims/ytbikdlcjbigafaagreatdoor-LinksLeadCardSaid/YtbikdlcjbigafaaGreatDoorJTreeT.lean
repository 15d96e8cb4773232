/-
  Slices of the call's own: how they read as lists. Small laws that many texts share. The laws' small helpers: sameInts, asked. Which answer a forest tells: the relation, that it holds of one answer, valueOf. tree.leaf: the measure of its loop (plain part). tree.leaf: the place of the answer to which a number leads. The bounds of a forest; copies of answers. The copy of an answer by the document's function. tree.Eval. tree.Eval of a forest that may be. The law on tree.Eval. A chain of pieces as nodes: the plain part. A number from 0 to many - 1. Small laws that the texts on tree.Opt need. tree.chain: its closure, and the chain. tree.chain: pieces as a tree. Rows of answers, each with a row of its offsets. What is stored into a box of slices changes no row of numbers. · sundialref.parted: plain; walked. · sundialref.decimal: plain; walked.
-/
import Derived.OwnWalk
import Derived.Laws.OwnMore
import Derived.Laws.AppendOwnNone
import Derived.Deep.RegionHeld3
import Derived.IntWalk
import Derived.Maps.OwnOps
import Derived.Maps.OwnSet
import Derived.Maps.Views
import Derived.StillTailTactics
import Derived.Deep.DeepCutAuto
import Derived.Deep.CutRange
import Derived.Deep.CutBlock
import Derived.Test.YtbikdlcjbigafaaGreatDoorJSrcT
import Derived.Test.YtbikdlcjbigafaaGreatDoorJBase
namespace Go.Proofs.YtbikdlcjbigafaaGreatDoor
set_option linter.unusedVariables false
set_option linter.unusedSimpArgs false
open Go.ChangeShapes Go.WideShapes Go.ChangeAt Go.RowKit

theorem flat_at {α : Type} {enc : α → List Value} {sz : Nat} (he : ∀ x, (enc x).length = sz) : ∀ (xs : List α) (i j : Nat) (hi : i < xs.length), j < sz → (xs.flatMap enc)[i * sz + j]? = (enc xs[i])[j]?
  | [], i, j, hi, _ => by simp at hi
  | x :: xs, 0, j, _, hj => by
    simp only [List.flatMap_cons, Nat.zero_mul, Nat.zero_add, List.getElem_cons_zero]
    rw [List.getElem?_append_left (by rw [he]; exact hj)]
  | x :: xs, i + 1, j, hi, hj => by
    simp only [List.flatMap_cons, List.getElem_cons_succ]
    rw [List.getElem?_append_right (by rw [he, Nat.succ_mul]; omega)]
    rw [show (i + 1) * sz + j - (enc x).length = i * sz + j from by rw [he, Nat.succ_mul]; omega]
    exact flat_at he xs i j (by simpa using hi) hj
theorem slAt_of_own {α : Type} {w : World} {base : Nat} {e : TypeId} {sz : Nat} {R : List Value → α → Prop} {enc : α → List Value} {v : Value} {xs : List α} (hs : 0 < sz) (he : ∀ x, (enc x).length = sz) (hR : ∀ x ∈ xs, R (enc x) x)
    (h : w.ownsRow base e sz v xs.length (xs.flatMap enc)) : SlAt w sz R v xs := by
  obtain ⟨hl, h⟩ := h
  rcases h with ⟨rfl, h0⟩ | ⟨g, cap, cur, rfl, hb, hh, hc, hm, hs', ht⟩
  · exact .inl ⟨none, 0, rfl, List.length_eq_zero_iff.1 h0⟩
  · by_cases h0 : xs.length = 0
    · exact .inl ⟨some ⟨g, 0, none⟩, cap, by rw [h0], List.length_eq_zero_iff.1 h0⟩
    · have hown : w.ownsRow base e sz (.slice (some ⟨g, 0, none⟩) xs.length cap) xs.length (xs.flatMap enc) := ⟨hl, .inr ⟨g, cap, cur, rfl, hb, hh, hc, hm, hs', ht⟩⟩
      have hg : g < w.heap.size := by
        rcases Nat.lt_or_ge g w.heap.size with q | q
        · exact q
        · rw [Array.getElem?_eq_none q] at hh; cases hh
      refine .inr ⟨g, 0, cap, rfl, by omega, hc, hm, hg, fun i hi => ⟨enc xs[i], he _, hR _ (List.getElem_mem hi), fun j hj => ?_⟩⟩
      have hlt : i * sz + j < xs.length * sz := by
        have : (i + 1) * sz ≤ xs.length * sz := Nat.mul_le_mul_right _ hi
        rw [Nat.succ_mul] at this
        omega
      rw [Nat.zero_add, hown.cellAt _ hlt]
      exact flat_at he xs i j hi hj
def encI (x : Int) : List Value := [.int .i64 x]
theorem SlAt.all {α : Type} {w : World} {sz : Nat} {R : List Value → α → Prop} {v : Value} {xs : List α} (h : SlAt w sz R v xs) (x : α) (hx : x ∈ xs) : ∃ cs, R cs x := by
  rcases h with ⟨a, cap, hv, rfl⟩ | ⟨b, off, cap, hv, h0, h1, h2, h3, h4⟩
  · simp at hx
  · obtain ⟨i, hi, rfl⟩ := List.mem_iff_getElem.1 hx
    obtain ⟨cs, _, r, _⟩ := h4 i hi
    exact ⟨cs, r⟩
theorem size_alloc (w : World) (o : Obj) : (w.alloc o).heap.size = w.heap.size + 1 := by show (w.heap.push o).size = _; rw [Array.size_push]
end Go.Proofs.YtbikdlcjbigafaaGreatDoor
namespace Go.Proofs.YtbikdlcjbigafaaGreatDoor
set_option linter.unusedVariables false
set_option linter.unusedSimpArgs false
open Go.ChangeShapes Go.WideShapes Go.ChangeAt Go.RowKit

theorem size_le_push_ (w : World) (o : Obj) : w.heap.size ≤ (w.alloc o).heap.size := by show _ ≤ (w.heap.push o).size; rw [Array.size_push]; omega
theorem own_shape {w : World} {B n sz : Nat} {e : TypeId} {v : Value} {xs : List Value} (h : w.ownsRow B e sz v n xs) : ∃ a cap, v = .slice a n cap := by
  rcases h.2 with ⟨rfl, rfl⟩ | ⟨g, cap, cur, rfl, _⟩
  · exact ⟨none, 0, rfl⟩
  · exact ⟨_, cap, rfl⟩
theorem ownsRow_base {w : World} {B C n sz : Nat} {e : TypeId} {v : Value} {xs : List Value} (hC : C ≤ B) (h : w.ownsRow B e sz v n xs) : w.ownsRow C e sz v n xs := by
  obtain ⟨h1, h2⟩ := h
  refine ⟨h1, ?_⟩
  rcases h2 with h2 | ⟨g, cap, cur, hv, hg, r⟩
  · exact .inl h2
  · exact .inr ⟨g, cap, cur, hv, by omega, r⟩
theorem own_snocG {α : Type} {w : World} {B sz : Nat} {e : TypeId} {v : Value} {enc : α → List Value} {xs : List α} {x : α} (h : w.ownsRow B e sz v (xs.length + 1) (xs.flatMap enc ++ enc x)) : w.ownsRow B e sz v (xs ++ [x]).length ((xs ++ [x]).flatMap enc) := by
  have e1 : (xs ++ [x]).flatMap enc = xs.flatMap enc ++ enc x := by simp
  rw [e1, List.length_append]
  exact h
theorem cells_at (w : World) (l : List Value) (c : Array Value) (e : TypeId) (n : Nat) (hn : n = w.heap.size) (hc : l = c.toList) : ∀ j u, l[j]? = some u → (w.alloc (.cells c e)).cell? ((⟨n, 0, none⟩ : Addr).add j) = some u := by
  intro j u hj
  subst hn hc
  rw [add_one_, Nat.zero_add, World.cell?_alloc_at _ _ _ _ rfl]
  simpa using hj
theorem append_keep {w wA w1 : World} {B sz n : Nat} {e : TypeId} {v : Value} {xs : List Value} (hown : w.ownsRow B e sz v n xs) (hA : Below B w wA) (hBz : B ≤ w.heap.size) (hgrow : wA.grownBy w1 v.ownBlock) : Below B w w1 :=
  hA.trans ((Below.refl B wA).grown hgrow (Nat.le_trans hBz hA.size) (fun g hg => (hown.lt g hg).1))
theorem below_alloc2 {B : Nat} {w : World} (h : B ≤ w.heap.size) (o o' : Obj) : Below B w ((w.alloc o).alloc o') := ((Below.refl B w).alloc h _).alloc (Nat.le_trans h (size_le_push_ w o)) _
theorem ownsRow_below {w w' : World} {B C n sz : Nat} {e : TypeId} {v : Value} {xs : List Value} (h : w.ownsRow B e sz v n xs) (hb : Below C w w') (hC : w.heap.size ≤ C) : w'.ownsRow B e sz v n xs := by
  obtain ⟨h1, h2⟩ := h
  refine ⟨h1, ?_⟩
  rcases h2 with h2 | ⟨g, cap, cur, hv, hg, hh, r⟩
  · exact .inl h2
  · refine .inr ⟨g, cap, cur, hv, hg, ?_, r⟩
    have hlt : g < w.heap.size := by
      rcases Nat.lt_or_ge g w.heap.size with q | q
      · exact q
      · rw [Array.getElem?_eq_none q] at hh; cases hh
    rw [hb.block g (by omega)]
    exact hh
theorem own_apart {w : World} {B B' n n' sz sz' : Nat} {e e' : TypeId} {v v' : Value} {xs xs' : List Value} (h : w.ownsRow B e sz v n xs) (h' : w.ownsRow B' e' sz' v' n' xs') (hne : e ≠ e') : v.ownBlock = none ∨ v.ownBlock ≠ v'.ownBlock := by
  rcases h.2 with ⟨rfl, _⟩ | ⟨g, cap, cur, rfl, _, hh, _⟩
  · exact .inl rfl
  · rcases h'.2 with ⟨rfl, _⟩ | ⟨g', cap', cur', rfl, _, hh', _⟩
    · exact .inr (by simp [Value.ownBlock])
    · right
      intro e1
      have e2 : g = g' := by simpa [Value.ownBlock] using e1
      subst e2
      rw [hh] at hh'
      simp at hh'
      exact hne hh'.2
end Go.Proofs.YtbikdlcjbigafaaGreatDoor
namespace Go.Proofs.YtbikdlcjbigafaaGreatDoor
set_option linter.unusedVariables false
set_option linter.unusedSimpArgs false
open Go.ChangeShapes Go.WideShapes Go.ChangeAt Go.RowKit

end Go.Proofs.YtbikdlcjbigafaaGreatDoor
namespace Go.Proofs.YtbikdlcjbigafaaGreatDoor
set_option linter.unusedVariables false
set_option linter.unusedSimpArgs false
open Go.ChangeShapes Go.WideShapes Go.ChangeAt Go.RowKit

end Go.Proofs.YtbikdlcjbigafaaGreatDoor
namespace Go.Proofs.YtbikdlcjbigafaaGreatDoor
set_option linter.unusedVariables false
set_option linter.unusedSimpArgs false
open Go.ChangeShapes Go.WideShapes Go.ChangeAt Go.RowKit

end Go.Proofs.YtbikdlcjbigafaaGreatDoor
namespace Go.Proofs.YtbikdlcjbigafaaGreatDoor
set_option linter.unusedVariables false
set_option linter.unusedSimpArgs false
open Go.ChangeShapes Go.WideShapes Go.ChangeAt Go.RowKit

end Go.Proofs.YtbikdlcjbigafaaGreatDoor
namespace Go.Proofs.YtbikdlcjbigafaaGreatDoor
set_option linter.unusedVariables false
set_option linter.unusedSimpArgs false
open Go.ChangeShapes Go.WideShapes Go.ChangeAt Go.RowKit

end Go.Proofs.YtbikdlcjbigafaaGreatDoor
namespace Go.Proofs.YtbikdlcjbigafaaGreatDoor
set_option linter.unusedVariables false
set_option linter.unusedSimpArgs false
open Go.ChangeShapes Go.WideShapes Go.ChangeAt Go.RowKit

end Go.Proofs.YtbikdlcjbigafaaGreatDoor
namespace Go.Proofs.YtbikdlcjbigafaaGreatDoor
set_option linter.unusedVariables false
set_option linter.unusedSimpArgs false
open Go.ChangeShapes Go.WideShapes Go.ChangeAt Go.RowKit

end Go.Proofs.YtbikdlcjbigafaaGreatDoor
namespace Go.Proofs.YtbikdlcjbigafaaGreatDoor
set_option linter.unusedVariables false
set_option linter.unusedSimpArgs false
open Go.ChangeShapes Go.WideShapes Go.ChangeAt Go.RowKit

end Go.Proofs.YtbikdlcjbigafaaGreatDoor
namespace Go.Proofs.YtbikdlcjbigafaaGreatDoor
set_option linter.unusedVariables false
set_option linter.unusedSimpArgs false
open Go.ChangeShapes Go.WideShapes Go.ChangeAt Go.RowKit

end Go.Proofs.YtbikdlcjbigafaaGreatDoor
namespace Go.Proofs.YtbikdlcjbigafaaGreatDoor
set_option linter.unusedVariables false
set_option linter.unusedSimpArgs false
open Go.ChangeShapes Go.WideShapes Go.ChangeAt Go.RowKit

end Go.Proofs.YtbikdlcjbigafaaGreatDoor
namespace Go.Proofs.YtbikdlcjbigafaaGreatDoor
set_option linter.unusedVariables false
set_option linter.unusedSimpArgs false
open Go.ChangeShapes Go.WideShapes Go.ChangeAt Go.RowKit

def pkv (n many : Int) : Int := (if n < 0 then -(n + 1) else n) % many
theorem picked_v (n many : Int) (w : World) (hn : (Lit.int .i64 n).wf = true) (h1 : 1 ≤ many) (h2 : many ≤ 9000000000) :
    Calls Tryz.prog 12 #[.int .i64 n, .int .i64 many] w fun e w' => e = .returned (.int .i64 (pkv n many)) ∧ w = w' := by
  obtain ⟨b1, b2⟩ := bounds_i64 hn
  clear hn
  by_cases h : n < 0
  · have hp : -(n + 1).tmod many = pkv n many := by
      unfold pkv; rw [if_pos h, ← Int.tmod_eq_emod_of_nonneg (by omega), Int.neg_tmod]
    have HP := Lib.hid hp
    clear hp
    go_enter Tryz.func12, Tryz.ntmps12
    go_wp2
    go_ret
    exact ⟨ret_int HP.out, rfl⟩
  · have hp : n % many = pkv n many := by unfold pkv; rw [if_neg h]
    have HP := Lib.hid hp
    clear hp
    go_enter Tryz.func12, Tryz.ntmps12
    go_wp2
    go_ret
    exact ⟨ret_int HP.out, rfl⟩
end Go.Proofs.YtbikdlcjbigafaaGreatDoor
namespace Go.Proofs.YtbikdlcjbigafaaGreatDoor
set_option linter.unusedVariables false
set_option linter.unusedSimpArgs false
open Go.ChangeShapes Go.WideShapes Go.ChangeAt Go.RowKit

end Go.Proofs.YtbikdlcjbigafaaGreatDoor
namespace Go.Proofs.YtbikdlcjbigafaaGreatDoor
set_option linter.unusedVariables false
set_option linter.unusedSimpArgs false
open Go.ChangeShapes Go.WideShapes Go.ChangeAt Go.RowKit

end Go.Proofs.YtbikdlcjbigafaaGreatDoor
namespace Go.Proofs.YtbikdlcjbigafaaGreatDoor
set_option linter.unusedVariables false
set_option linter.unusedSimpArgs false
open Go.ChangeShapes Go.WideShapes Go.ChangeAt Go.RowKit

end Go.Proofs.YtbikdlcjbigafaaGreatDoor
namespace Go.Proofs.YtbikdlcjbigafaaGreatDoor
set_option linter.unusedVariables false
set_option linter.unusedSimpArgs false
open Go.ChangeShapes Go.WideShapes Go.ChangeAt Go.RowKit

theorem slAt_via {α β : Type} {w : World} {sz : Nat} {R : List Value → α → Prop} {R' : List Value → β → Prop} {v : Value} {xs : List α} (f : α → β) (h : SlAt w sz R v xs) (hR : ∀ cs, ∀ x ∈ xs, R cs x → R' cs (f x)) : SlAt w sz R' v (xs.map f) := by
  rcases h with ⟨a, cap, hv, rfl⟩ | ⟨b, off, cap, hv, h0, h1, h2, h3, h4⟩
  · exact .inl ⟨a, cap, hv, rfl⟩
  · refine .inr ⟨b, off, cap, by rw [List.length_map]; exact hv, by rw [List.length_map]; exact h0, by rw [List.length_map]; exact h1, h2, h3, fun i hi => ?_⟩
    rw [List.length_map] at hi
    obtain ⟨cs, c1, c2, c3⟩ := h4 i hi
    exact ⟨cs, c1, by rw [List.getElem_map]; exact hR _ _ (List.getElem_mem hi) c2, c3⟩
end Go.Proofs.YtbikdlcjbigafaaGreatDoor
namespace Go.Proofs.YtbikdlcjbigafaaGreatDoor
set_option linter.unusedVariables false
set_option linter.unusedSimpArgs false
open Go.ChangeShapes Go.WideShapes Go.ChangeAt Go.RowKit

/-- a value that is no slice. -/
def NSl (u : Value) : Prop := ∀ a n c, u ≠ .slice a n c
/-- a block of slices alone. -/
def SlB (w : World) (b : Nat) : Prop := ∀ j u, w.cell? ⟨b, j, none⟩ = some u → ¬ NSl u
theorem SlAt.apart {α : Type} {w w' : World} {sz b : Nat} {R R' : List Value → α → Prop} {v : Value} {xs : List α} (h : SlAt w sz R v xs) (h0 : 0 < sz) (hR : ∀ cs x, R cs x → R' cs x ∧ ∃ c, cs[0]? = some c ∧ NSl c) (hb : SlB w b) (hw : ∀ c, c ≠ b → w'.heap[c]? = w.heap[c]?) (hs : w.heap.size ≤ w'.heap.size) : SlAt w' sz R' v xs := by
  rcases h with h | ⟨d, off, cap, hv, p0, p1, p2, p3, p4⟩
  · exact .inl h
  · have hne : d ≠ b := fun e => by
      subst e
      obtain ⟨cs, _, q1, q2⟩ := p4 0 p0
      obtain ⟨_, c, q3, q4⟩ := hR _ _ q1
      exact hb _ c ((q2 0 h0).trans q3) q4
    refine .inr ⟨d, off, cap, hv, p0, p1, p2, Nat.lt_of_lt_of_le p3 hs, fun i hi => ?_⟩
    obtain ⟨cs, q0, q1, q2⟩ := p4 i hi
    exact ⟨cs, q0, (hR _ _ q1).1, fun j hj => by rw [World.cell?_of_block (a := ⟨d, _, none⟩) (hw d hne)]; exact q2 j hj⟩
/-- a box of slices that was made. -/
theorem SlB.new (w : World) (cs : Array Value) (t : TypeId) (h : ∀ (j : Nat) (u : Value), cs[j]? = some u → ¬ NSl u) : SlB (w.alloc (.cells cs t)) w.heap.size := fun j u hu => by
  rw [World.cell?_alloc_at (w := w) _ _ w.heap.size j rfl] at hu
  exact h j u hu
theorem SlB.below {w w' : World} {b B : Nat} (h : SlB w b) (hb : Below B w w') (hl : b < B) : SlB w' b := fun j u hu => h j u ((hb.cell (p := ⟨b, j, none⟩) hl).symm.trans hu)
end Go.Proofs.YtbikdlcjbigafaaGreatDoor

namespace Go.Proofs.YtbikdlcjbigafaaGreatDoor
set_option linter.unusedVariables false
set_option linter.unusedSimpArgs false
open Go.ChangeShapes Go.WideShapes Go.ChangeAt Go.RowKit

/-- a text's pieces, cut at each c; cur is what the first piece has so far. -/
def splB (c : UInt8) : List UInt8 → List UInt8 → List (List UInt8)
  | cur, [] => [cur]
  | cur, x :: l => if x = c then cur :: splB c [] l else splB c (cur ++ [x]) l
theorem ext_bytes (s : ByteArray) (a b : Nat) : s.extract a b = ⟨((s.data.toList.drop a).take (b - a)).toArray⟩ := by
  obtain ⟨⟨l⟩⟩ := s
  exact ByteArray.extract_mk l a b
end Go.Proofs.YtbikdlcjbigafaaGreatDoor

namespace Go.Proofs.YtbikdlcjbigafaaGreatDoor
set_option linter.unusedVariables false
set_option linter.unusedSimpArgs false
open Go.ChangeShapes Go.WideShapes Go.ChangeAt Go.RowKit

def dval (l : List Int) : Int := l.foldl (fun n b => 10 * n + (b - 48)) 0
theorem dval_snoc (l : List Int) (b : Int) : dval (l ++ [b]) = 10 * dval l + (b - 48) := by unfold dval; rw [List.foldl_append]; rfl
theorem dval_lt : ∀ (j : Nat) (l : List Int), l.length ≤ j → (∀ b ∈ l, 48 ≤ b ∧ b ≤ 57) → 0 ≤ dval l ∧ dval l < 10 ^ j
  | 0, l, h, _ => by
    have : l = [] := by cases l <;> simp_all
    subst this
    decide
  | j + 1, l, h, hd => by
    rcases List.eq_nil_or_concat l with rfl | ⟨r, b, rfl⟩
    · refine ⟨by decide, ?_⟩
      show (0 : Int) < 10 ^ (j + 1)
      exact Int.pow_pos (by decide)
    · rw [List.concat_eq_append] at h hd ⊢
      rw [dval_snoc]
      have h1 := dval_lt j r (by simp at h; omega) (fun x hx => hd x (by simp [hx]))
      have h2 := hd b (by simp)
      have h3 : (10 : Int) ^ (j + 1) = 10 * 10 ^ j := by rw [Int.pow_succ, Int.mul_comm]
      omega
def dcmBad (l : List Int) : Bool := !(decide (1 ≤ (l.length : Int) ∧ (l.length : Int) ≤ 6)) || (!(l.all digB) || (decide (1 < l.length) && (l.headD 0 == 48)))
def dcm (l : List Int) (most : Int) : Int × Int := if dcmBad l then (0, 4) else if most < dval l then (0, 2) else (dval l, 0)
theorem digB_iff (x : Int) : digB x = true ↔ 48 ≤ x ∧ x ≤ 57 := by unfold digB; simp
end Go.Proofs.YtbikdlcjbigafaaGreatDoor
