/-
  Small laws that the texts on tree.Opt need.
-/
import Derived.Test.YtlhidbbphngpcaaChN
import Derived.Maps.OwnOps
import Derived.Maps.OwnSet
import Derived.Maps.Views
import Derived.StillTailTactics
import Derived.Deep.DeepCutAuto
import Derived.Deep.CutRange
import Derived.Deep.CutBlock
namespace Go.Proofs.Ytlhidbbphngpcaa
set_option linter.unusedVariables false
set_option linter.unusedSimpArgs false
open Go.ChangeShapes Go.WideShapes Go.ChangeAt Go.RowKit

theorem info_ansZ : (Try.prog.info? 39).map (fun i => (i.zero, i.size, i.bytes)) = some (some (.agg #[.int .i64 0, .bool false, .string ⟨#[]⟩, .slice none 0 0, .int .i64 0]), 5, 64) := by kernel_rfl
theorem info_pcZ : (Try.prog.info? 83).map (fun i => (i.zero, i.size, i.bytes)) = some (some (.agg #[.int .i64 0, .int .i64 0]), 2, 16) := by kernel_rfl
theorem chN_64Z : ∀ (ps : List Pc), ps.length ≤ 9000 → (∀ p ∈ ps, I64 p.fr ∧ I64 p.an) → ∀ n ∈ chN ps, I64 n.an ∧ I64 n.bd ∧ I64 n.ls ∧ I64 n.mr
  | [], _, _, n, hn => by simp [chN] at hn
  | [p], _, h, n, hn => by
    obtain rfl : n = leafN p.an := by simpa [chN] using hn
    exact ⟨(h p (by simp)).2, i64_zero, i64_zero, i64_zero⟩
  | p :: q :: r, hl, h, n, hn => by
    rw [chN_cons] at hn
    have hL := chN_len q r
    simp only [List.length_cons] at hl
    rcases List.mem_append.1 hn with h1 | h1
    · exact chN_64Z (q :: r) (by simp; omega) (fun x hx => h x (List.mem_cons_of_mem _ hx)) n h1
    · rcases List.mem_cons.1 h1 with rfl | h1
      · exact ⟨(h p (by simp)).2, i64_zero, i64_zero, i64_zero⟩
      · obtain rfl := List.mem_singleton.1 h1
        exact ⟨i64_zero, (h q (by simp)).1, i64_nat _ (by omega), i64_nat _ (by omega)⟩
def dIZ (t : Int) : DataW Unit := .lit (.int .i64 t)
theorem vzeroZ (w : World) : (zeroValue 3).run Try.prog w = .ok (.int .i64 0) w := by kernel_rfl
theorem pelZ (t : Int) (h : I64 t) : plainElem Try.prog 3 (.int .i64 t) = some (dIZ t, []) := by
  unfold plainElem
  simp only [Try.underlying3]
  have h' : (Lit.int .i64 t).wf = true := h
  simp [h', dIZ]
theorem dI_injZ {a c : Int} (h : dIZ a = .lit (.int .i64 c)) : c = a := by
  unfold dIZ at h
  simp at h
  exact h.symm
end Go.Proofs.Ytlhidbbphngpcaa
