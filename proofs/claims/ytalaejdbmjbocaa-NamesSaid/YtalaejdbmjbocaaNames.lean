/-
  The law on the numbers of package api: what its own function answers.
-/
import Derived.Test.YtalaejdbmjbocaaKit
import Derived.OwnWalk
import Derived.WalkSmall
import Derived.Laws.AppendOwn
import Derived.ArgAppend
namespace Go.Proofs.Ytalaejdbmjbocaa
set_option linter.unusedVariables false
set_option linter.unusedSimpArgs false
open Go.ChangeShapes Go.WideShapes Go.ChangeAt Go.RowKit

def nmA : List Int := [1900, 2099, 8000, 200, 20, 86400, 604800, 20, 8, 12, 1000, 8000, 2000, 2000, 6, 8, 200000]
def nmB : List Int := [1, 2, 3, 4, 0, 1, 2, 1, 2, 4, 1, 2, 3, 4, 5, 6]
theorem infoInt : (Try.prog.info? 3).map (fun i => (i.zero, i.size, i.bytes)) = some (some (.int .i64 0), 1, 8) := by kernel_rfl
theorem rowcell {w : World} {base : Nat} {g n cap : Nat} {zs : List Int} (h : w.ownsRow base 3 1 (.slice (some ⟨g, 0, none⟩) n cap) n (zs.map (Value.int .i64))) (k : Nat) (hk : k < zs.length) :
    w.cell? ⟨g, k, none⟩ = some (.int .i64 (zs.getD k 0)) := by
  have := h.cells (g := g) rfl k (.int .i64 (zs.getD k 0)) (by simp [List.getD, hk])
  have e : (⟨g, 0, none⟩ : Addr).add k = ⟨g, k, none⟩ := by
    by_cases h0 : k = 0
    · subst h0; rfl
    · simp [Addr.add, h0]
  rw [← e]; exact this
theorem own_lit (w : World) (base n : Nat) (cur : Array Value) (hb : base ≤ w.heap.size) (hs : cur.size = n) (hm : n ≤ maxLen) :
    (w.alloc (.cells cur 3)).ownsRow base 3 1 (.slice (some ⟨w.heap.size, 0, none⟩) n n) n cur.toList :=
  ⟨by simp [hs], .inr ⟨w.heap.size, n, cur, rfl, hb, (MapKept.heap_alloc w _).1, Nat.le_refl _, hm, by simp [hs], by rw [Nat.mul_one, List.take_of_length_le (by simp [hs])]⟩⟩
theorem own_shape {w : World} {base e size n : Nat} {v : Value} {xs : List Value} (h : w.ownsRow base e size v n xs) (hn : 0 < n) : ∃ g cap, v = .slice (some ⟨g, 0, none⟩) n cap := by
  rcases h with ⟨_, ⟨_, h0⟩ | ⟨g, cap, _, hv, _⟩⟩
  · omega
  · exact ⟨g, cap, hv⟩
def litA : Obj := .cells (nmA.map (Value.int .i64)).toArray 3
def litB : Obj := .cells (nmB.map (Value.int .i64)).toArray 3
theorem own_a (w : World) (o1 o3 o4 : Obj) : ((((w.alloc o1).alloc litA).alloc o3).alloc o4).ownsRow 0 3 1 (.slice (some ⟨w.heap.size + 1, 0, none⟩) 17 17) 17 (nmA.map (Value.int .i64)) := by
  have h := own_lit (w.alloc o1) 0 17 (nmA.map (Value.int .i64)).toArray (by omega) rfl (by unfold maxLen; omega)
  rw [show (w.alloc o1).heap.size = w.heap.size + 1 by simp] at h
  exact (h.alloc _).alloc _
theorem own_b (w : World) (o1 o2 o4 : Obj) : ((((w.alloc o1).alloc o2).alloc litA).alloc o4).ownsRow 0 3 1 (.slice (some ⟨w.heap.size + 1 + 1, 0, none⟩) 17 17) 17 (nmA.map (Value.int .i64)) := by
  have h := own_lit ((w.alloc o1).alloc o2) 0 17 (nmA.map (Value.int .i64)).toArray (by omega) rfl (by unfold maxLen; omega)
  rw [show ((w.alloc o1).alloc o2).heap.size = w.heap.size + 1 + 1 by simp] at h
  exact h.alloc _
theorem own_c (w : World) (o1 o2 o3 : Obj) : ((((w.alloc o1).alloc o2).alloc o3).alloc litB).ownsRow 0 3 1 (.slice (some ⟨w.heap.size + 1 + 1 + 1, 0, none⟩) 16 16) 16 (nmB.map (Value.int .i64)) := by
  have h := own_lit (((w.alloc o1).alloc o2).alloc o3) 0 16 (nmB.map (Value.int .i64)).toArray (by omega) rfl (by unfold maxLen; omega)
  rw [show (((w.alloc o1).alloc o2).alloc o3).heap.size = w.heap.size + 1 + 1 + 1 by simp] at h
  exact h
theorem own_d (w : World) : (w.alloc litB).ownsRow 0 3 1 (.slice (some ⟨w.heap.size, 0, none⟩) 16 16) 16 (nmB.map (Value.int .i64)) :=
  own_lit w 0 16 (nmB.map (Value.int .i64)).toArray (by omega) rfl (by unfold maxLen; omega)
theorem own_cells {w : World} {base g n cap : Nat} {xs : List Value} (h : w.ownsRow base 3 1 (.slice (some ⟨g, 0, none⟩) n cap) n xs) : ∀ b, some (⟨g, 0, none⟩ : Addr) = some b → ∀ j u, xs[j]? = some u → w.cell? (b.add j) = some u := fun b hb => by
  cases hb; exact h.cells (g := g) rfl
theorem int_cells (zs : List Int) : ∀ u ∈ zs.map (Value.int .i64), u.oneCell' = true := fun u hu => by
  obtain ⟨z, _, rfl⟩ := List.mem_map.1 hu; rfl
set_option maxHeartbeats 1000000 in
theorem walkNames (w : World) :
    Calls Try.prog 3 #[] w fun e w' => e = .returned (.bool true) ∧ Below w.heap.size w w' := by
  obtain ⟨i0, hi, hz0, hz1, hz2⟩ := info_parts infoInt
  go_enter Try.func3, Try.ntmps3
  go_wp2_with fail
  go_loop [2] (fun t => ∃ k : Nat, k ≤ 11 ∧ t = .int .i64 k) (fun t => (11 - intOf t).toNat)
  case atStart => exact ⟨0, by omega, rfl⟩
  case round =>
    obtain ⟨k, hk, rfl⟩ := hrel
    by_cases hlt : k < 11
    · have hc : (w.alloc (.cells #[.int .i64 0, .int .i64 1, .int .i64 2, .int .i64 3, .int .i64 4, .int .i64 5, .int .i64 6, .int .i64 7, .int .i64 8, .int .i64 9, .int .i64 10] 22)).cell? ⟨w.heap.size, k, none⟩ = some (.int .i64 k) := by
        rw [World.cell?_alloc_at _ _ _ _ rfl]
        have : k = 0 ∨ k = 1 ∨ k = 2 ∨ k = 3 ∨ k = 4 ∨ k = 5 ∨ k = 6 ∨ k = 7 ∨ k = 8 ∨ k = 9 ∨ k = 10 := by omega
        rcases this with rfl | rfl | rfl | rfl | rfl | rfl | rfl | rfl | rfl | rfl | rfl <;> rfl
      go_wp2
      go_round
      case rel => exact ⟨k + 1, by omega, by go_num⟩
      case measure => simp [intOf]; omega
    · have tok1 : True := trivial
      have tok2 : True := trivial
      clear hk
      go_wp2_with (first
        | (at_builtin; have _t := tok1; refine wpList_append_grows _ rfl _ _ 24 rfl 3 i0 (.int .i64 0) 1 8 Try.underlying24 hi hz0 hz1 hz2 rfl (by decide) (some ⟨w.heap.size + 1, 0, none⟩) 17 17 (nmA.map (Value.int .i64)) rfl (fun h => by cases h) rfl (own_cells (own_a w _ _ _)) ⟨w.heap.size + 1 + 1 + 1, 0, none⟩ 16 16 (nmB.map (Value.int .i64)) rfl rfl (own_cells (own_c w _ _ _) _ rfl) (int_cells _) (by omega) (by unfold maxLen; omega) (by omega) ?_; intro v1 w1 hown1 hg1; clear tok1; obtain ⟨g1, cap1, hv1⟩ := own_shape hown1 (by omega); rw [hv1] at hown1 ⊢; clear hv1; have hB1 : Below w.heap.size w w1 := (((((Below.refl _ _).alloc (Nat.le_refl _) _).alloc (by simp) _).alloc (by simp; omega) _).alloc (by simp; omega) _).grown hg1 (by simp; omega) (fun k hk => by cases hk); have H1 := Lib.hid hown1; have H2 := Lib.hid ((own_b w _ _ _).kept hg1 (Or.inr (by simp [Value.ownBlock]))); clear hown1 hg1)
        | (at_builtin; have _t := tok2; refine wpList_append_grows _ rfl _ _ 24 rfl 3 i0 (.int .i64 0) 1 8 Try.underlying24 hi hz0 hz1 hz2 rfl (by decide) (some ⟨w.heap.size + 1 + 1, 0, none⟩) 17 17 (nmA.map (Value.int .i64)) rfl (fun h => by cases h) rfl (own_cells (H2.out.alloc _)) ⟨w1.heap.size, 0, none⟩ 16 16 (nmB.map (Value.int .i64)) rfl rfl (own_cells (own_d w1) _ rfl) (int_cells _) (by omega) (by unfold maxLen; omega) (by omega) ?_; intro v2 w2 hown2 hg2; clear tok2; obtain ⟨g2, cap2, hv2⟩ := own_shape hown2 (by omega); rw [hv2] at hown2 ⊢; clear hv2; have hB2 : Below w.heap.size w w2 := (hB1.alloc (by have := hB1.size; omega) _).grown hg2 (by have := hB1.size; simp; omega) (fun k hk => by cases hk); have H3 := Lib.hid hown2; have H4 := Lib.hid ((H1.out.alloc _).kept hg2 (Or.inr (by simp [Value.ownBlock]))); clear hown2 hg2))
      go_loopw [5] (fun t wr => ∃ k : Nat, k ≤ 33 ∧ t = .int .i64 k ∧ ∃ q, wr = w2.drewN q) (fun t _ => (33 - intOf t).toNat)
      case atStart => exact ⟨0, by omega, rfl, 0, rfl⟩
      case round =>
        obtain ⟨k, hk, rfl, q, rfl⟩ := hrel
        by_cases hlt : k < 33
        · have hc1 : w2.cell? ⟨g1, k, none⟩ = some (.int .i64 ((nmA ++ nmB).getD k 0)) := rowcell (by rw [List.map_append]; exact H4.out) k hlt
          have hc2 : w2.cell? ⟨g2, k, none⟩ = some (.int .i64 ((nmA ++ nmB).getD k 0)) := rowcell (by rw [List.map_append]; exact H3.out) k hlt
          generalize (nmA ++ nmB).getD k 0 = z at hc1 hc2
          have hx : (k : Int) < 33 := by omega
          go_wp2
          go_quiet (fail)
          go_wp2
          go_roundw
          case rel => exact ⟨k + 1, by omega, by go_num, _, rfl⟩
          case measure => simp [intOf]; omega
        · go_wp2
          go_ret
          exact ⟨rfl, below_draws hB2 _⟩
end Go.Proofs.Ytalaejdbmjbocaa
