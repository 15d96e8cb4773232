/-
  tree.chain: its closure, and the chain.
-/
import Derived.Test.YtlhidbbphngpcaaLem
import Derived.Test.YtlhidbbphngpcaaChN
namespace Go.Proofs.Ytlhidbbphngpcaa
set_option linter.unusedVariables false
set_option linter.unusedSimpArgs false
open Go.ChangeShapes Go.WideShapes Go.ChangeAt Go.RowKit

def encN (x : Nod) : List Value := [.bool x.lf, .int .i64 x.an, .int .i64 x.bd, .int .i64 x.ls, .int .i64 x.mr]
def encP (x : Pc) : List Value := [.int .i64 x.fr, .int .i64 x.an]
def RPc (cs : List Value) (x : Pc) : Prop := cs = encP x
theorem info_node : (Try.prog.info? 61).map (fun i => (i.zero, i.size, i.bytes)) = some (some (.agg #[.bool false, .int .i64 0, .int .i64 0, .int .i64 0, .int .i64 0]), 5, 40) := by kernel_rfl
theorem encN_one (x : Nod) : ∀ u ∈ encN x, u.oneCell' = true := by
  intro u hu
  simp [encN] at hu
  rcases hu with rfl | rfl | rfl | rfl | rfl <;> rfl
theorem encP_one (x : Pc) : ∀ u ∈ encP x, u.oneCell' = true := by
  intro u hu
  simp [encP] at hu
  rcases hu with rfl | rfl <;> rfl
set_option maxRecDepth 100000 in
set_option maxHeartbeats 1000000 in
theorem chain1_any (nd : Nod) (o B : Nat) (v : Value) (xs : List Nod) (w : World) (hoB : o < B) (hB : B ≤ w.heap.size) (hc : w.cell? ⟨o, 0, none⟩ = some v) (hf : w.frozen? ⟨o, 0, none⟩ = false) (hown : w.ownsRow B 61 5 v xs.length (xs.flatMap encN)) (hl : xs.length ≤ 20000) :
    Calls Try.prog 65 #[.agg #[.bool nd.lf, .int .i64 nd.an, .int .i64 nd.bd, .int .i64 nd.ls, .int .i64 nd.mr], .pointer (some ⟨o, 0, none⟩)] w fun e w' => e = .returned (.int .i64 (xs.length : Nat)) ∧ ∃ v', w'.cell? ⟨o, 0, none⟩ = some v' ∧ w'.frozen? ⟨o, 0, none⟩ = false ∧ w'.ownsRow B 61 5 v' (xs ++ [nd]).length ((xs ++ [nd]).flatMap encN) ∧ Below o w w' := by
  obtain ⟨i0, hi, hz0, hz1, hz2⟩ := info_parts info_node
  obtain ⟨av, cv, rfl⟩ := own_shape hown
  have hoz : o < w.heap.size := by omega
  go_enter Try.func65, Try.ntmps65
  go_wp2_with (at_builtin; refine wpList_append_own _ rfl _ _ 23 rfl B 61 i0 (.agg #[.bool false, .int .i64 0, .int .i64 0, .int .i64 0, .int .i64 0]) 5 40 Try.underlying23 hi hz0 hz1 hz2 rfl (by decide) _ _ _ rfl ((hown.alloc _).alloc _) ⟨w.heap.size + 1, 0, none⟩ 1 1 (encN nd) rfl rfl (cells_at _ _ _ _ _ (size_alloc _ _).symm rfl) (encN_one nd) (by unfold maxLen; omega) (by omega) (by rw [size_alloc]; rw [size_alloc]; omega) ?_; intro v' w1 hown' hgrow _; obtain ⟨a2, c2, rfl⟩ := own_shape hown'; have hB2 := append_keep hown (below_alloc2 hB _ _) hB hgrow; obtain ⟨q0, q1, hz⟩ := cell_keep hB2 hB hoB hc hf; have HO := Lib.hid (own_snocG hown'); have HB := Lib.hid (hB2.mono (Nat.le_of_lt hoB)); clear hown' hgrow hB2 hc hf)
  go_ret
  refine ⟨rfl, _, World.cell?_setCell_same (h := q0) .., ?_, ?_, ?_⟩
  · rw [World.frozen?_setCell]; exact q1
  · exact ownsRow_setCell_below HO.out hoB _
  · exact HB.out.setCell (Nat.le_refl _) _
end Go.Proofs.Ytlhidbbphngpcaa
