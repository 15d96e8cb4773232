/-
  The law on tree.Eval.
-/
import Derived.Test.YtlhidbbphngpcaaTreeK
import Derived.Test.YtlhidbbphngpcaaTreeD
namespace Go.Proofs.Ytlhidbbphngpcaa
set_option linter.unusedVariables false
set_option linter.unusedSimpArgs false
open Go.ChangeShapes Go.WideShapes Go.ChangeAt Go.RowKit

def AnsV (A : Ans) (v : Value) : Value := .agg #[.int .i64 A.ck.off, .bool A.ck.sav, .string A.ck.nm, v, .int .i64 A.jump]
theorem SlAt_nil (w : World) : SlAt w 1 RInt (.slice none 0 0) [] := .inl ⟨none, 0, rfl, rfl⟩
/-- the one answer that both evaluations tell. -/
theorem eval_ex (f : Frs) (t : Int) : ∃ A : Ans, A.ck.nm.size ≤ maxLen ∧
    (∀ (vn va : Value) (w : World), FrsAt w vn va f → Calls Try.prog 20 #[.agg #[vn, va], .int .i64 t] w fun e w' => ∃ v', e = .returned (.tuple #[.agg #[.int .i64 A.ck.off, .bool A.ck.sav, .string A.ck.nm, v', .int .i64 A.jump], .int .i64 (frsE f)]) ∧ SlAt w' 1 RInt v' A.offs ∧ Below w.heap.size w w') ∧
    (∀ (vn va : Value) (w : World), FrsAt w vn va f → Calls Try.prog 15 #[.agg #[vn, va], .int .i64 t] w fun e w' => ∃ v', e = .returned (.tuple #[.agg #[.int .i64 A.ck.off, .bool A.ck.sav, .string A.ck.nm, v', .int .i64 A.jump], .int .i64 (frsE f)]) ∧ SlAt w' 1 RInt v' A.offs ∧ Below w.heap.size w w') ∧ (frsE f = 0 → A ∈ f.answers) := by
  by_cases h : frsE f = 0
  · obtain ⟨g0, g1, g2, g3, g4⟩ := frs_good h
    obtain ⟨a, ha, ha0, ha1⟩ := lf_ex f.nodes f.answers.length t g4 (f.nodes.length) (f.nodes.length - 1) (by omega) (by omega)
    obtain ⟨i, rfl⟩ : ∃ i : Nat, a = i := ⟨a.toNat, by omega⟩
    have hi : i < f.answers.length := by omega
    have hm := List.getElem_mem hi
    have hs := (ansE_offs (g3 i hi)).2
    have h64 : ∀ {w : World} {vn va : Value}, FrsAt w vn va f → ∀ x ∈ f.answers[i].offs, I64 x := fun hf x hx => by
      obtain ⟨cs, vo, _, hv, _⟩ := hf.2.all _ hm
      exact ints64 hv x hx
    rw [h]
    refine ⟨f.answers[i], by unfold maxLen; omega, fun vn va w hf => (eval_ok f vn va t i w hf h ha hi).mono ?_, fun vn va w hf => (evalOf_ok f vn va t i w hf h ha hi).mono ?_, fun _ => hm⟩
    · rintro e w' ⟨v', he, ho, hb⟩
      exact ⟨v', he, ints_of_own (h64 hf) ho, hb⟩
    · rintro e w' ⟨v', he, ho, hb⟩
      exact ⟨v', he, ints_of_own (h64 hf) ho, hb⟩
  · refine ⟨⟨⟨0, false, ⟨#[]⟩⟩, [], 0⟩, Nat.zero_le _, fun vn va w hf => (eval_bad f vn va t w hf h).mono ?_, fun vn va w hf => (evalOf_bad f vn va t w hf h).mono ?_, fun h' => absurd h' h⟩
    · rintro e w' ⟨he, hb⟩
      exact ⟨_, he, SlAt_nil _, hb⟩
    · rintro e w' ⟨he, hb⟩
      exact ⟨_, he, SlAt_nil _, hb⟩
end Go.Proofs.Ytlhidbbphngpcaa
