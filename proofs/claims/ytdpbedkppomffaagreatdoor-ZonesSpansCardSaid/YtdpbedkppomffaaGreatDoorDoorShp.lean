/-
  A door's frame that keeps the world's shape; a listed variable by its place in the list; the table of months.
-/
import Derived.LaidLaws
import Derived.LaidMore
import Derived.Stop.Joined
import Derived.Stop.LaidErr
import Derived.HandedShaped
import Derived.Lib.LaidTab
import Derived.Test.YtdpbedkppomffaaGreatDoorCivT
import Derived.Test.YtdpbedkppomffaaGreatDoorMxl
namespace Go.Proofs.YtdpbedkppomffaaGreatDoor
set_option linter.unusedVariables false
set_option linter.unusedSimpArgs false
set_option maxRecDepth 100000
open Go.ChangeShapes Go.WideShapes Go.ChangeAt Go.RowKit Civ

theorem ownS : ownKnob Tryz.prog.godebug = none := by kernel_rfl
theorem laidOutS : laidOutB Tryz.prog = true := by kernel_rfl
theorem laid_at {P : Program} {W : World} : ∀ {l : List (String × DataW Unit)} (i : Nat) {nm : String} {d : DataW Unit}, l[i]? = some (nm, d) → laidMet P l W → laidMet P ((nm, d) :: l.drop (i + 1)) W
  | [], _, _, _, e, _ => by simp at e
  | x :: l, 0, nm, d, e, h => by
    obtain rfl : x = (nm, d) := by simpa using e
    exact h
  | x :: l, i + 1, nm, d, e, h => laid_at i (by simpa using e) h.tail
theorem tMonthsS : (Tryz.prog.globals[1]?).map (·.type) = some 205 := by kernel_rfl
theorem cIntS : Tryz.prog.cellsOf 3 = 1 := by kernel_rfl
theorem cMonthsS : Tryz.prog.cellsOf 205 = 13 := by kernel_rfl
theorem gMonthsS : Tryz.prog.globalNamed "sundial/civil.months" = some 1 := by kernel_rfl
def monLS : List Int := [0, 31, 59, 90, 120, 151, 181, 212, 243, 273, 304, 334, 365]
theorem monLS_get : ∀ i : Nat, i < 13 → monLS.getD i 0 = mon i := by decide
theorem tab_at {W : World} {l : List (String × DataW Unit)} (i : Nat) (e : l[i]? = some ("sundial/civil.months", Rows.laid_sundial_civil_months)) (h : laidMet Tryz.prog l W) : Tab W := by
  have h' : laidMet Tryz.prog (("sundial/civil.months", Lib.tabData .i64 monLS) :: l.drop (i + 1)) W := laid_at i e h
  have hT := Lib.tabIs_of_head gMonthsS tMonthsS Tryz.underlying205 Tryz.underlying3 cIntS cMonthsS h'
  have hc : ∀ i : Nat, i < 13 → W.cell? ⟨1, i, none⟩ = some (.int .i64 (mon i)) := fun i hi => by
    rw [← monLS_get i hi]; exact hT.cell gMonthsS i hi
  refine ⟨hc, ?_⟩
  rcases Nat.lt_or_ge 1 W.heap.size with g | g
  · exact g
  · have := hc 0 (by omega)
    simp [World.cell?, Array.getElem?_eq_none g] at this
theorem change_shapedS {H : Type} {enc : TypeId × Value → H} {a : Assume} {C : Checked} {os : Os} {f : FuncId} {fn : Func} {s : ChangeSpec} {conds : List PathCond} {apart fresh handsOn again : Bool} {X : World → Array Value → Prop}
    (hX : ∀ (w w' : World) (args : Array Value), w.heap = w'.heap → X w args → X w' args)
    (own : ownKnob C.prog.godebug = none) (started : os.Started) (noInit : C.prog.inits.idxOf? f = none) (hfn : C.prog.funcs[f]? = some fn)
    (witness : ∃ (w : World) (tape : Tape) (i : Input), w.os = os ∧ (w.forCall tape i).Shaped C.prog ∧ i.vars = [] ∧ Input.okWide C.prog (w.forCall tape i) .any w.heap.size f i ∧
      ((s.pre enc C.prog fn conds apart (w.forCall tape i).memory i.args ∧ X (w.forCall tape i).memory i.args) ∧ sizedMet enc C.prog fn (OpenSpec.ofChange s) apart (w.forCall tape i).memory i.args) ∧ a.holds C.prog (lone (Frame.enter C.prog f i.args .normal) [] (w.forCall tape i)))
    (contract : ∀ (W : World) (base : Nat) (args : Array Value) (ds gs : List (DataW H)) (before : List MemPlace),
      (∀ (j : Nat) t v, fn.params[j]? = some t → args[j]? = some v → Value.okWide C.prog W .any base t v) →
      DataW.Whole enc C.prog fn.params.toList s.vars apart W args.toList ds gs before →
      conds.all (PathCond.test C.prog ⟨fn.params.toList, ds, s.plain.varTypes C.prog, gs⟩) = true →
      W.ShapedOpen C.prog → X W args →
      a.holds C.prog (lone (Frame.enter C.prog f args .normal) [] W) →
      Calls C.prog f args W fun e W' => ∃ v, e = .returned v ∧ s.post enc C.prog fn apart fresh handsOn again W args v W') :
    ReturnsInHanded a C os f .any (fun w args => (s.pre enc C.prog fn conds apart w args ∧ X w args) ∧ sizedMet enc C.prog fn (OpenSpec.ofChange s) apart w args) (s.post enc C.prog fn apart fresh handsOn again) := by
  refine returnsInHanded_of_calls own started noInit witness ?_
  intro w tape i _ hsh _ hok hpre hholds
  obtain ⟨_, _, _, fn', hfn', _, _, _, _, hval⟩ := hok
  have e : fn' = fn := Option.some.inj (hfn'.symm.trans hfn)
  subst e
  obtain ⟨⟨⟨ds, gs, before, hw, hc⟩, hx⟩, hz⟩ := hpre
  have hw' := DataW.Whole.of_heap (w' := w.forCall tape i) (by rfl) hw
  refine (contract (w.forCall tape i) w.heap.size i.args ds gs before hval hw' hc hsh (hX _ _ _ (by rfl) hx) hholds).mono fun e W' ⟨v, he, hp⟩ => ?_
  subst he
  exact ChangeSpec.post_blind hp
end Go.Proofs.YtdpbedkppomffaaGreatDoor
