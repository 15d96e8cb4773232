/-
  tree.chain: its closure, and the chain.
-/
import Derived.Test.YtpnmaopompfalaaChN
namespace Go.Proofs.Ytpnmaopompfalaa
set_option linter.unusedVariables false
set_option linter.unusedSimpArgs false
open Go.ChangeShapes Go.WideShapes Go.ChangeAt Go.RowKit

def encN (x : Nod) : List Value := [.bool x.lf, .int .i64 x.an, .int .i64 x.bd, .int .i64 x.ls, .int .i64 x.mr]
def encP (x : Pc) : List Value := [.int .i64 x.fr, .int .i64 x.an]
def RPc (cs : List Value) (x : Pc) : Prop := cs = encP x
theorem info_node : (Try.prog.info? 84).map (fun i => (i.zero, i.size, i.bytes)) = some (some (.agg #[.bool false, .int .i64 0, .int .i64 0, .int .i64 0, .int .i64 0]), 5, 40) := by kernel_rfl
theorem cells_new (w : World) (l : List Value) (e : TypeId) : ∀ j u, l[j]? = some u → (w.alloc (.cells l.toArray e)).cell? ((⟨w.heap.size, 0, none⟩ : Addr).add j) = some u := by
  intro j u hj
  rw [add_one_, Nat.zero_add, World.cell?_alloc_at _ _ _ _ rfl]
  simpa using hj
theorem own_snocG {α : Type} {w : World} {B sz : Nat} {e : TypeId} {v : Value} {enc : α → List Value} {xs : List α} {x : α} (h : w.ownsRow B e sz v (xs.length + 1) (xs.flatMap enc ++ enc x)) : w.ownsRow B e sz v (xs ++ [x]).length ((xs ++ [x]).flatMap enc) := by
  have e1 : (xs ++ [x]).flatMap enc = xs.flatMap enc ++ enc x := by simp
  rw [e1, List.length_append]
  exact h
theorem cells_at (w : World) (l : List Value) (c : Array Value) (e : TypeId) (n : Nat) (hn : n = w.heap.size) (hc : l = c.toList) : ∀ j u, l[j]? = some u → (w.alloc (.cells c e)).cell? ((⟨n, 0, none⟩ : Addr).add j) = some u := by
  intro j u hj
  subst hn hc
  rw [add_one_, Nat.zero_add, World.cell?_alloc_at _ _ _ _ rfl]
  simpa using hj
theorem encN_one (x : Nod) : ∀ u ∈ encN x, u.oneCell' = true := by
  intro u hu
  simp [encN] at hu
  rcases hu with rfl | rfl | rfl | rfl | rfl <;> rfl
theorem encP_one (x : Pc) : ∀ u ∈ encP x, u.oneCell' = true := by
  intro u hu
  simp [encP] at hu
  rcases hu with rfl | rfl <;> rfl
theorem append_keep {w wA w1 : World} {B sz n : Nat} {e : TypeId} {v : Value} {xs : List Value} (hown : w.ownsRow B e sz v n xs) (hA : Below B w wA) (hBz : B ≤ w.heap.size) (hgrow : wA.grownBy w1 v.ownBlock) : Below B w w1 :=
  hA.trans ((Below.refl B wA).grown hgrow (Nat.le_trans hBz hA.size) (fun g hg => (hown.lt g hg).1))
theorem below_alloc2 {B : Nat} {w : World} (h : B ≤ w.heap.size) (o o' : Obj) : Below B w ((w.alloc o).alloc o') := ((Below.refl B w).alloc h _).alloc (Nat.le_trans h (size_le_push_ w o)) _
theorem cell_keep {B o : Nat} {w w1 : World} {u : Value} (h : Below B w w1) (hz : B ≤ w.heap.size) (ho : o < B) (hc : w.cell? ⟨o, 0, none⟩ = some u) (hf : w.frozen? ⟨o, 0, none⟩ = false) : w1.cell? ⟨o, 0, none⟩ = some u ∧ w1.frozen? ⟨o, 0, none⟩ = false ∧ o < w1.heap.size :=
  ⟨(h.cell (p := ⟨o, 0, none⟩) ho).trans hc, (h.frozen (p := ⟨o, 0, none⟩) ho).trans hf, by have := h.size; omega⟩
set_option maxRecDepth 100000 in
set_option maxHeartbeats 1000000 in
theorem chain1_any (nd : Nod) (o B : Nat) (v : Value) (xs : List Nod) (w : World) (hoB : o < B) (hB : B ≤ w.heap.size) (hc : w.cell? ⟨o, 0, none⟩ = some v) (hf : w.frozen? ⟨o, 0, none⟩ = false) (hown : w.ownsRow B 84 5 v xs.length (xs.flatMap encN)) (hl : xs.length ≤ 20000) :
    Calls Try.prog 106 #[.agg #[.bool nd.lf, .int .i64 nd.an, .int .i64 nd.bd, .int .i64 nd.ls, .int .i64 nd.mr], .pointer (some ⟨o, 0, none⟩)] w fun e w' => e = .returned (.int .i64 (xs.length : Nat)) ∧ ∃ v', w'.cell? ⟨o, 0, none⟩ = some v' ∧ w'.frozen? ⟨o, 0, none⟩ = false ∧ w'.ownsRow B 84 5 v' (xs ++ [nd]).length ((xs ++ [nd]).flatMap encN) ∧ Below o w w' := by
  obtain ⟨i0, hi, hz0, hz1, hz2⟩ := info_parts info_node
  obtain ⟨av, cv, rfl⟩ := own_shape hown
  have hoz : o < w.heap.size := by omega
  go_enter Try.func106, Try.ntmps106
  go_wp2_with (at_builtin; refine wpList_append_own _ rfl _ _ 31 rfl B 84 i0 (.agg #[.bool false, .int .i64 0, .int .i64 0, .int .i64 0, .int .i64 0]) 5 40 Try.underlying31 hi hz0 hz1 hz2 rfl (by decide) _ _ _ rfl ((hown.alloc _).alloc _) ⟨w.heap.size + 1, 0, none⟩ 1 1 (encN nd) rfl rfl (cells_at _ _ _ _ _ (size_alloc _ _).symm rfl) (encN_one nd) (by unfold maxLen; omega) (by omega) (by rw [size_alloc]; rw [size_alloc]; omega) ?_; intro v' w1 hown' hgrow _; obtain ⟨a2, c2, rfl⟩ := own_shape hown'; have hB2 := append_keep hown (below_alloc2 hB _ _) hB hgrow; obtain ⟨q0, q1, hz⟩ := cell_keep hB2 hB hoB hc hf; have HO := Lib.hid (own_snocG hown'); have HB := Lib.hid (hB2.mono (Nat.le_of_lt hoB)); clear hown' hgrow hB2 hc hf)
  go_ret
  refine ⟨rfl, _, World.cell?_setCell_same (h := q0) .., ?_, ?_, ?_⟩
  · rw [World.frozen?_setCell]; exact q1
  · exact ownsRow_setCell_below HO.out hoB _
  · exact HB.out.setCell (Nat.le_refl _) _
end Go.Proofs.Ytpnmaopompfalaa
