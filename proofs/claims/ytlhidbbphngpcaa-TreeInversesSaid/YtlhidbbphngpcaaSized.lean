/-
  How long a slice of an argument may be: the form's own reach.
-/
import Derived.Test.YtlhidbbphngpcaaBase
import Derived.SizedLaws
namespace Go.Proofs.Ytlhidbbphngpcaa
set_option linter.unusedVariables false
set_option linter.unusedSimpArgs false
open Go.ChangeShapes Go.WideShapes Go.ChangeAt Go.RowKit

theorem SlAt.shapeS {α : Type} {w : World} {sz : Nat} {R : List Value → α → Prop} {v : Value} {xs : List α} (h : SlAt w sz R v xs) : ∃ a cap, v = .slice a xs.length cap ∧ xs.length ≤ maxLen := by
  rcases h with ⟨a, cap, rfl, rfl⟩ | ⟨b, off, cap, rfl, h0, h1, h2, h3, h4⟩
  · exact ⟨a, cap, rfl, by simp⟩
  · exact ⟨_, cap, rfl, by omega⟩
section
variable {H : Type} {enc : TypeId × Value → H} {P : Program} {w : World} {b : Nat} {sp : Nat → Bool} {held : Bool}
theorem mapM_first {α β : Type} {f : α → Option β} {x : α} {l : List α} {r : List β} (h : (x :: l).mapM f = some r) : ∃ y r', f x = some y ∧ r = y :: r' := by
  simp only [List.mapM_cons, Option.bind_eq_bind, Option.bind_eq_some_iff, Option.pure_def, Option.some.injEq] at h
  obtain ⟨y, hy, r', hr', rfl⟩ := h
  exact ⟨y, r', hy, rfl⟩
theorem slice_sized {fuel : Nat} {t e : TypeId} {a : Option Addr} {len cap R : Nat} {y : DataW H × List MemPlace} (ht : P.underlying t = some (.slice e)) (h : DataW.trod enc P w b sp held fuel t [.slice a len cap] = some y) (hw : ∀ n ∈ y.1.weights P t, n ≤ R) : len * P.bytesOf e ≤ R := by
  rcases Deep.open_slice ht h with ⟨hc, _⟩ | ⟨a', len', cap', m, n, D, Pl, hc, _, hl, _, _, rfl, _⟩
  · simp only [List.cons.injEq, Value.slice.injEq, and_true] at hc
    obtain ⟨_, rfl, _⟩ := hc
    simp
  · simp only [List.cons.injEq, Value.slice.injEq, and_true] at hc
    obtain ⟨_, rfl, _⟩ := hc
    have := hw _ (by simp only [DataW.weights, ht]; exact List.mem_cons_self)
    simp only [List.length_map, List.length_range] at this
    exact Nat.le_trans (Nat.mul_le_mul_right _ (by omega)) this
end
theorem bytesNode : Try.prog.bytesOf 61 = 40 := by kernel_rfl
theorem bytesSpan : Try.prog.bytesOf 50 = 40 := by kernel_rfl
section
variable {H : Type} {enc : TypeId × Value → H} {w : World} {b : Nat} {sp : Nat → Bool} {held : Bool}
theorem nodes_sized {a : Option Addr} {len cap : Nat} {va : Value} {d : DataW H} {p : List MemPlace} (h : DataW.Trod enc Try.prog w b sp held 26 (.agg #[.slice a len cap, va]) d p) (hw : ∀ n ∈ d.weights Try.prog 26, n ≤ reachBytes) : len * 8 ≤ 140737488355320 := by
  obtain ⟨fuel, hf⟩ := h
  cases fuel with
  | zero => simp [DataW.trod] at hf
  | succ fuel =>
    simp only [DataW.trod, Try.underlying26] at hf
    split at hf
    · rename_i hl
      obtain ⟨xs, hx, e⟩ := Option.map_eq_some_iff.1 hf
      obtain ⟨y, r', hy, rfl⟩ := mapM_first hx
      simp only [List.map_cons, Prod.mk.injEq] at e
      obtain ⟨rfl, _⟩ := e
      simp only [cSlNod] at hy
      have hy' : DataW.trod enc Try.prog w b sp held fuel 23 [.slice a len cap] = some y := hy
      have hs := slice_sized (R := reachBytes) (len := len) (a := a) (cap := cap) Try.underlying23 hy' (fun n hn => hw n (by
        simp only [DataW.weights, Try.underlying26, List.map_cons, DataW.weightsEach]
        exact List.mem_append_left _ hn))
      rw [bytesNode] at hs
      unfold reachBytes at hs
      omega
    · cases hf
theorem spans_sized {v : Value} {xs : List Spn} {W : World} {d : DataW H} {p : List MemPlace} (h : DataW.Trod enc Try.prog w b sp held 22 v d p) (hs : SlAt W 4 RSpn v xs) (hw : ∀ n ∈ d.weights Try.prog 22, n ≤ reachBytes) : xs.length * 40 ≤ 140737488355328 ∧ ∀ n cap, v = .slice none n cap → cap = 0 := by
  obtain ⟨fuel, hf⟩ := h
  obtain ⟨a, cap, rfl, _⟩ := hs.shapeS
  have hf' : DataW.trod enc Try.prog w b sp held fuel 22 [.slice a xs.length cap] = some (d, p) := hf
  have hs := slice_sized (R := reachBytes) Try.underlying22 hf' hw
  rw [bytesSpan] at hs
  unfold reachBytes at hs
  refine ⟨by omega, fun n c e => ?_⟩
  simp only [Value.slice.injEq] at e
  obtain ⟨rfl, _, rfl⟩ := e
  rcases Deep.open_slice Try.underlying22 hf' with ⟨hc, _⟩ | ⟨a', len', cap', m, n', D, Pl, hc, _⟩
  · simp only [List.cons.injEq, Value.slice.injEq, and_true] at hc
    exact hc.2.2
  · simp at hc
end
end Go.Proofs.Ytlhidbbphngpcaa
