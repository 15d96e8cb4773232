/-
  Turns put in order by blocks that are merged: plain.
-/
import Derived.Test.YtdpbedkppomffaaDoorStbA
namespace Go.Proofs.YtdpbedkppomffaaDoor
set_option linter.unusedVariables false
set_option linter.unusedSimpArgs false

theorem Sd.td {l : List Trn} (h : Sd l) (g : Td l) : Td l := g
/-- halves whose parts are told apart by one number. -/
theorem sym_done {u1 u2 v1 v2 : List Trn} (hU : Sd (u1 ++ u2)) (hV : Sd (v1 ++ v2)) (hA : Ah (u1 ++ u2) (v1 ++ v2)) (h1 : Lo u1 v2) (h2 : Lo v1 u2) (hu : Td (u1 ++ u2)) (hv : Td (v1 ++ v2)) :
    so ((u1 ++ u2) ++ (v1 ++ v2)) = so (u1 ++ v1) ++ so (u2 ++ v2) := by
  obtain ⟨a1, a2, a3⟩ := sd_app.1 hU
  obtain ⟨b1, b2, b3⟩ := sd_app.1 hV
  have td : Td ((u1 ++ u2) ++ (v1 ++ v2)) := List.pairwise_append.2 ⟨hu, hv, fun x hx y hy => by have := hA x hx y hy; omega⟩
  have p : ((u1 ++ u2) ++ (v1 ++ v2)).Perm ((u1 ++ v1) ++ (u2 ++ v2)) := by
    rw [List.append_assoc, List.append_assoc]
    refine List.Perm.append_left u1 ?_
    rw [← List.append_assoc, ← List.append_assoc]
    exact List.Perm.append_right v2 List.perm_append_comm
  have td2 := td.perm p
  obtain ⟨t1, t2, -⟩ := List.pairwise_append.1 td2
  refine so_eq (p.trans ((so_perm _).symm.append (so_perm _).symm)) (sd_app.2 ⟨so_sd t1, so_sd t2, fun x hx y hy => ?_⟩)
  have hx := (so_perm _).subset hx
  have hy := (so_perm _).subset hy
  rcases List.mem_append.1 hx with hx | hx <;> rcases List.mem_append.1 hy with hy | hy
  · exact a3 x hx y hy
  · exact h1 x hx y hy
  · exact h2 x hx y hy
  · exact b3 x hx y hy
/-- blocks of k, each in order. -/
def bsL (k : Nat) (l : List Trn) : List Trn := if h : l.length ≤ k ∨ k = 0 then so l else so (l.take k) ++ bsL k (l.drop k)
termination_by l.length
decreasing_by rw [List.length_drop]; omega
theorem bsL_low {k : Nat} {l : List Trn} (h : l.length ≤ k) : bsL k l = so l := by
  unfold bsL
  rw [dif_pos (.inl h)]
theorem bsL_high {k : Nat} {l : List Trn} (h : k < l.length) (hk : 0 < k) : bsL k l = so (l.take k) ++ bsL k (l.drop k) := by
  rw [bsL.eq_1]
  rw [dif_neg (by omega)]
theorem bsL_len (k : Nat) (l : List Trn) : (bsL k l).length = l.length := by
  generalize hn : l.length = n
  induction n using Nat.strongRecOn generalizing l with
  | _ n ih =>
    by_cases h : l.length ≤ k ∨ k = 0
    · unfold bsL
      rw [dif_pos h, so_len, hn]
    · rw [bsL_high (by omega) (by omega), List.length_append, so_len, List.length_take, ih (l.drop k).length (by rw [List.length_drop]; omega) _ rfl, List.length_drop]
      omega
/-- a block more, at once: even if it is the last one. -/
theorem bsL_step {k : Nat} {l : List Trn} (h : k ≤ l.length) (hk : 0 < k) : bsL k l = so (l.take k) ++ bsL k (l.drop k) := by
  rcases Nat.lt_or_ge k l.length with h1 | h1
  · exact bsL_high h1 hk
  · rw [bsL_low h1, List.take_of_length_le h1, List.drop_of_length_le h1, bsL_low (by simp)]
    simp [so]
theorem so_two {u v : List Trn} (h : Td (u ++ v)) : so (so u ++ so v) = so (u ++ v) :=
  so_congr ((so_perm u).append (so_perm v)) (h.perm ((so_perm u).append (so_perm v)).symm)
theorem bs_pair {k : Nat} {l : List Trn} (h : 2 * k ≤ l.length) (hk : 0 < k) : bsL k l = so (l.take k) ++ (so ((l.drop k).take k) ++ bsL k (l.drop (2 * k))) := by
  rw [bsL_step (by omega) hk, bsL_step (by rw [List.length_drop]; omega) hk, List.drop_drop, show k + k = 2 * k by omega]
theorem bs_rest {k : Nat} {l : List Trn} (h : k < l.length) (h2 : l.length < 2 * k) : bsL k l = so (l.take k) ++ so (l.drop k) := by
  rw [bsL_high h (by omega), bsL_low (by rw [List.length_drop]; omega)]
theorem take_two {l : List Trn} (k : Nat) : l.take k ++ (l.drop k).take k = l.take (2 * k) := by
  rw [show 2 * k = k + k by omega, List.take_add]
end Go.Proofs.YtdpbedkppomffaaDoor
