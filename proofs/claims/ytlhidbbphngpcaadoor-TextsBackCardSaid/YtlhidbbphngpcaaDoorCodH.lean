/-
  The document's verification.
-/
import Derived.Test.YtlhidbbphngpcaaDoorCodF
import Derived.Test.YtlhidbbphngpcaaDoorCodB
import Derived.Deep.DeepCutAuto
import Derived.Deep.CutRange
import Derived.Deep.CutBlock
namespace Go.Proofs.YtlhidbbphngpcaaDoor
set_option linter.unusedVariables false
set_option linter.unusedSimpArgs false
open Go.ChangeShapes Go.WideShapes Go.ChangeAt Go.RowKit

theorem vlaw : Maps.Keyed Tryd.prog 3 := Maps.int_keyed Tryd.underlying3
theorem vzero (w : World) : (zeroValue 3).run Tryd.prog w = .ok (.int .i64 0) w := by kernel_rfl
theorem pel (t : Int) (h : I64 t) : plainElem Tryd.prog 3 (.int .i64 t) = some (dI t, []) := by
  unfold plainElem
  simp only [Tryd.underlying3]
  have h' : (Lit.int .i64 t).wf = true := h
  simp [h', dI]
/-- the map of block b reads as D. -/
def MpI (w : World) (b n : Nat) (D : DataW Unit) : Prop := w.ownsMap Tryd.prog 3 (plainElem Tryd.prog 3) b n D
theorem MpI.block {w w' : World} {b n : Nat} {D : DataW Unit} (h : MpI w b n D) (hb : w'.heap[b]? = w.heap[b]?) : MpI w' b n D := by
  obtain ⟨es, clock, h1, h2⟩ := h
  exact ⟨es, clock, hb.trans h1, h2⟩
theorem MpI.below {w w' : World} {b n : Nat} {D : DataW Unit} (h : MpI w b n D) (hb : Below w.heap.size w w') : MpI w' b n D := h.block (hb.block b h.lt)
theorem MpI.other {w w' : World} {b c n : Nat} {D : DataW Unit} (h : MpI w b n D) (hg : w.grownBy w' (some c)) (hne : b ≠ c) : MpI w' b n D := h.block (hg.block b h.lt (fun e => hne (Option.some.inj e)))
theorem lo_run {w : World} {b n : Nat} {D : DataW Unit} {ll : List Int} (h : MpI w b n D) (hl : LoM D ll) (t : Nat) (ht : t < ll.length) (h8 : t ≤ 100000) :
    (Instr.lookup 97 (.map (some b)) (.int .i64 t) false).run Tryd.prog w = .ok (.int .i64 (gI ll t)) w := by
  obtain ⟨c, hrun, hat, _⟩ := World.ownsMap.lookup_int h vlaw Tryd.underlying97 Tryd.underlying3 (vzero w) (key_int t (i64_nat t h8))
  have h2 := hl.2 t ht
  have h3 : D.atKey (kI t) (dI 0) = .lit (.int .i64 c) := hat
  rw [h2] at h3
  unfold dI at h3
  simp at h3
  rw [h3]
  exact hrun
theorem dI_inj {a c : Int} (h : dI a = .lit (.int .i64 c)) : c = a := by
  unfold dI at h
  simp at h
  exact h.symm
theorem own_at {w : World} {B ct b o : Nat} {e : TypeId} {ts : List Int} (h64 : ∀ x ∈ ts, I64 x) (h : w.ownsRow B e 1 (.slice (some ⟨b, o, none⟩) ts.length ct) ts.length (ts.flatMap encI)) (j : Nat) (hj : j < ts.length) {t : Int} (ht : ts[j] = t) : w.cell? ⟨b, o + j, none⟩ = some (.int .i64 t) := by
  obtain ⟨b', o', he, _, e0, _⟩ := elemInt (ints_of_own h64 h) j hj
  simp at he
  obtain ⟨rfl, rfl⟩ := he
  rw [← ht]
  exact e0
theorem World.ownsRow.drewN {w : World} {B n sz : Nat} {e : TypeId} {v : Value} {xs : List Value} (h : w.ownsRow B e sz v n xs) (q : Nat) : (w.drewN q).ownsRow B e sz v n xs := h
theorem still_lookup {P : Program} {ops : Array Oper} {w : World} {Q : Act → Prop} {a : Act} {o : Oper} {rest : List Oper} (hg : o.guard = none) (m x : Operand) (t : TypeId) (hop : o.op = Op.lookup t m x false) (v : Value)
    (hrun : (Instr.lookup t (a.eval m) (a.eval x) false).run P w = .ok v w) (h : wpStill P ops w Q rest (a.put o.dst v)) : wpStill P ops w Q (o :: rest) a := by
  refine wpStill_step (fun K hK => ?_)
  have hw : Region.wanted o (yielded ops a.tmps) = true := by unfold Region.wanted; rw [hg]
  rw [if_pos hw]
  unfold Oper.still
  simp [execOp, hop, hrun, Oper.stillUpon, Result.andThen]
  exact hK _ h
theorem own_kept {w w' : World} {B c n sz : Nat} {e : TypeId} {v : Value} {xs : List Value} (h : w.ownsRow B e sz v n xs) (hg : w.grownBy w' (some c)) (hc : c < B) : w'.ownsRow B e sz v n xs := by
  refine World.ownsRow.kept h hg ?_
  match hv : v.ownBlock with
  | none => exact .inl rfl
  | some D =>
    right
    intro e'
    have := (World.ownsRow.lt h D hv).1
    obtain rfl := Option.some.inj e'
    omega
theorem on_bad {D : DataW Unit} {dl : List Int} (h : OnM D dl) (u : Nat) (hu : u < dl.length) (A : Int) (c : Int) (hat : D.atKey (kI u) (dI 0) = .lit (.int .i64 c)) :
    (Maps.has D (kI u) = true ∧ (c != A) = true ∧ gI dl u ≠ 0 ∧ gI dl u ≠ A + 1) ∨ (Maps.has D (kI u) = false ∧ ¬ (gI dl u ≠ 0 ∧ gI dl u ≠ A + 1)) ∨ (Maps.has D (kI u) = true ∧ (c != A) = false ∧ ¬ (gI dl u ≠ 0 ∧ gI dl u ≠ A + 1)) := by
  obtain ⟨h1, h2⟩ := h.2 u hu
  by_cases g : gI dl u = 0
  · exact .inr (.inl ⟨by rw [h1]; simp [g], fun h => h.1 g⟩)
  · have h3 : Maps.has D (kI u) = true := by rw [h1]; simp [g]
    have h4 := dI_inj ((h2 g).symm.trans hat)
    by_cases e : c = A
    · exact .inr (.inr ⟨h3, bne_eq_false_iff_eq.2 e, fun h => h.2 (by omega)⟩)
    · exact .inl ⟨h3, bne_iff_ne.2 e, g, by omega⟩
theorem mx_set {l : List Int} {u : Nat} {v : Int} (h : ¬ gI l u < v) (hu : u < l.length) : l.set u (if gI l u < v then v else gI l u) = l := by
  rw [if_neg h]
  unfold gI
  rw [Int.toNat_natCast, List.getD_eq_getElem?_getD, List.getElem?_eq_getElem hu]
  exact List.set_getElem_self hu
theorem need_more (op c : Int) (hop : op = 1 ∨ op = 2 ∨ op = 3 ∨ op = 4 ∨ op = 5 ∨ op = 6) : (op = 1 ∨ op = 2) ∧ needI op = 0 ∧ c + moreI op = c + 1 ∨ op = 3 ∧ needI op = 2 ∧ c + moreI op = c - 1 ∨ op = 4 ∧ needI op = 1 ∧ c + moreI op = c - 1 ∨ (op = 5 ∨ op = 6) ∧ needI op = 0 ∧ c + moreI op = c := by
  rcases hop with rfl | rfl | rfl | rfl | rfl | rfl
  · exact .inl ⟨.inl rfl, rfl, rfl⟩
  · exact .inl ⟨.inr rfl, rfl, rfl⟩
  · exact .inr (.inl ⟨rfl, rfl, rfl⟩)
  · exact .inr (.inr (.inl ⟨rfl, rfl, rfl⟩))
  · exact .inr (.inr (.inr ⟨.inl rfl, rfl, Int.add_zero c⟩))
  · exact .inr (.inr (.inr ⟨.inr rfl, rfl, Int.add_zero c⟩))
end Go.Proofs.YtlhidbbphngpcaaDoor
