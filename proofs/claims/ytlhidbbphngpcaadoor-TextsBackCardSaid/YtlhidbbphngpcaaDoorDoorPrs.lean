/-
  What CodeParses' condition on the listed variables gives its walk; a door's frame that keeps the world's shape.
-/
import Derived.LaidLaws
import Derived.HandedShaped
import Derived.Test.YtlhidbbphngpcaaDoorDoorNam
import Derived.Test.YtlhidbbphngpcaaDoorPrsE
namespace Go.Proofs.YtlhidbbphngpcaaDoor
set_option linter.unusedVariables false
set_option linter.unusedSimpArgs false
set_option maxRecDepth 100000
open Go.ChangeShapes Go.WideShapes Go.ChangeAt Go.RowKit

theorem star_err : "*" ++ "errors.errorString" = "*errors.errorString" := by decide
theorem row_err (u : TypeId) (h : Tryd.prog.typeName? 3 u = some "*errors.errorString") : u = 152 :=
  typeName_ptr_named (nm := "errors.errorString") (by rw [star_err]; kernel_rfl) (by kernel_rfl) (by decide) u (by rw [star_err]; exact h)
theorem gRan : Tryd.prog.globalNamed "strconv.ErrRange" = some 3 := by kernel_rfl
theorem gSyn : Tryd.prog.globalNamed "strconv.ErrSyntax" = some 2 := by kernel_rfl
theorem tRan : (Tryd.prog.globals[3]?).map (·.type) = some 47 := by kernel_rfl
theorem tSyn : (Tryd.prog.globals[2]?).map (·.type) = some 47 := by kernel_rfl
theorem cErrS : Tryd.prog.cellsOf 154 = 1 := by kernel_rfl
theorem prV_of {W : World} (hM : MxL W) (h1 : laidMet Tryd.prog (("math/bits.deBruijn32tab", Rows.laid_math_bits_deBruijn32tab) :: ("math/bits.deBruijn64tab", Rows.laid_math_bits_deBruijn64tab) :: ("internal/strconv.uint64pow10", Rows.laid_internal_strconv_uint64pow10) :: ("strconv.ErrRange", Rows.laid_strconv_ErrRange) :: ("strconv.ErrSyntax", Rows.laid_strconv_ErrSyntax) :: ("sundial/code.names", Rows.laid_sundial_code_names) :: []) W) : PrV W := by
  obtain ⟨a0, s0, hv0, _⟩ := laid_sentinel h1.tail.tail.tail gRan tRan Tryd.underlying47 row_err Tryd.underlying152 Tryd.underlying154 rfl rfl Tryd.underlying9 cErrS cellsStr
  obtain ⟨a1, s1, hv1, _⟩ := laid_sentinel h1.tail.tail.tail.tail gSyn tSyn Tryd.underlying47 row_err Tryd.underlying152 Tryd.underlying154 rfl rfl Tryd.underlying9 cErrS cellsStr
  have c0 : W.cell? ⟨3, 0, none⟩ = some (.iface 152 (.pointer (some a0))) := by simpa using World.var?_cell gRan hv0 0
  have c1 : W.cell? ⟨2, 0, none⟩ = some (.iface 152 (.pointer (some a1))) := by simpa using World.var?_cell gSyn hv1 0
  exact ⟨nmT_of gNam h1.tail.tail.tail.tail.tail, hM, pow_of h1.tail.tail, ⟨_, _, c1⟩, ⟨_, _, c0⟩⟩
theorem tabs_parses {W : World} (hM : MxL W) (h : laidMet Tryd.prog Rows.codeParsesRow.laid W) : PrV W := prV_of hM h
theorem tabs_back {W : World} (hM : MxL W) (h : laidMet Tryd.prog Rows.textsBackRow.laid W) : PrV W := prV_of hM h
theorem change_and_shaped {H : Type} {enc : TypeId × Value → H} {a : Assume} {C : Checked} {os : Os} {f : FuncId} {fn : Func} {s : ChangeSpec} {conds : List PathCond} {apart fresh handsOn again : Bool} {X : World → Array Value → Prop}
    (hX : ∀ (w w' : World) (args : Array Value), w.heap = w'.heap → X w args → X w' args)
    (own : ownKnob C.prog.godebug = none) (started : os.Started) (noInit : C.prog.inits.idxOf? f = none) (hfn : C.prog.funcs[f]? = some fn)
    (witness : ∃ (w : World) (tape : Tape) (i : Input), w.os = os ∧ (w.forCall tape i).Shaped C.prog ∧ i.vars = [] ∧ Input.okWide C.prog (w.forCall tape i) .any w.heap.size f i ∧
      ((s.pre enc C.prog fn conds apart (w.forCall tape i).memory i.args ∧ X (w.forCall tape i).memory i.args) ∧ sizedMet enc C.prog fn (OpenSpec.ofChange s) apart (w.forCall tape i).memory i.args) ∧ a.holds C.prog (lone (Frame.enter C.prog f i.args .normal) [] (w.forCall tape i)))
    (contract : ∀ (W : World) (base : Nat) (args : Array Value) (ds gs : List (DataW H)) (before : List MemPlace),
      (∀ (j : Nat) t v, fn.params[j]? = some t → args[j]? = some v → Value.okWide C.prog W .any base t v) →
      DataW.Whole enc C.prog fn.params.toList s.vars apart W args.toList ds gs before →
      conds.all (PathCond.test C.prog ⟨fn.params.toList, ds, s.plain.varTypes C.prog, gs⟩) = true →
      W.ShapedOpen C.prog → X W args →
      a.holds C.prog (lone (Frame.enter C.prog f args .normal) [] W) →
      Calls C.prog f args W fun e W' => ∃ v, e = .returned v ∧ s.post enc C.prog fn apart fresh handsOn again W args v W') :
    ReturnsInHanded a C os f .any (fun w args => (s.pre enc C.prog fn conds apart w args ∧ X w args) ∧ sizedMet enc C.prog fn (OpenSpec.ofChange s) apart w args) (s.post enc C.prog fn apart fresh handsOn again) := by
  refine returnsInHanded_of_calls own started noInit witness ?_
  intro w tape i _ hsh _ hok hpre hholds
  obtain ⟨_, _, _, fn', hfn', _, _, _, _, hval⟩ := hok
  have e : fn' = fn := Option.some.inj (hfn'.symm.trans hfn)
  subst e
  obtain ⟨⟨⟨ds, gs, before, hw, hc⟩, hx⟩, hz⟩ := hpre
  have hw' := DataW.Whole.of_heap (w' := w.forCall tape i) (by rfl) hw
  refine (contract (w.forCall tape i) w.heap.size i.args ds gs before hval hw' hc hsh (hX _ _ _ (by rfl) hx) hholds).mono fun e W' ⟨v, he, hp⟩ => ?_
  subst he
  exact ChangeSpec.post_blind hp
end Go.Proofs.YtlhidbbphngpcaaDoor
