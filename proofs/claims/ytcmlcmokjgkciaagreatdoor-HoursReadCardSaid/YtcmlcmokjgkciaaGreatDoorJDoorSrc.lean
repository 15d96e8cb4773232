/-
  A door's frame that keeps the world's shape; what source.Read asks of the listed variables: names of months and days; the table of powers of ten. · The table of months, beside what source.Read asks.
-/
import Derived.LaidLaws
import Derived.LaidMore
import Derived.Stop.Joined
import Derived.Stop.LaidErr
import Derived.HandedShaped
import Derived.Lib.LaidTab
import Derived.Lib.ItoaNum
import Derived.Test.YtcmlcmokjgkciaaGreatDoorJPrsB
import Derived.Test.YtcmlcmokjgkciaaGreatDoorJMxl
import Derived.Test.YtcmlcmokjgkciaaGreatDoorJRdC
import Derived.Test.YtcmlcmokjgkciaaGreatDoorJCivT
namespace Go.Proofs.YtcmlcmokjgkciaaGreatDoor
set_option linter.unusedVariables false
set_option linter.unusedSimpArgs false
set_option maxRecDepth 100000
open Go.ChangeShapes Go.WideShapes Go.ChangeAt Go.RowKit Civ

theorem ownS : ownKnob Tryz.prog.godebug = none := by kernel_rfl
theorem laidOutS : laidOutB Tryz.prog = true := by kernel_rfl
theorem laid_at {P : Program} {W : World} : ∀ {l : List (String × DataW Unit)} (i : Nat) {nm : String} {d : DataW Unit}, l[i]? = some (nm, d) → laidMet P l W → laidMet P ((nm, d) :: l.drop (i + 1)) W
  | [], _, _, _, e, _ => by simp at e
  | x :: l, 0, nm, d, e, h => by
    obtain rfl : x = (nm, d) := by simpa using e
    exact h
  | x :: l, i + 1, nm, d, e, h => laid_at i (by simpa using e) h.tail
theorem change_shapedS {H : Type} {enc : TypeId × Value → H} {a : Assume} {C : Checked} {os : Os} {f : FuncId} {fn : Func} {s : ChangeSpec} {conds : List PathCond} {apart fresh handsOn again : Bool} {X : World → Array Value → Prop}
    (hX : ∀ (w w' : World) (args : Array Value), w.heap = w'.heap → X w args → X w' args)
    (own : ownKnob C.prog.godebug = none) (started : os.Started) (noInit : C.prog.inits.idxOf? f = none) (hfn : C.prog.funcs[f]? = some fn)
    (witness : ∃ (w : World) (tape : Tape) (i : Input), w.os = os ∧ (w.forCall tape i).Shaped C.prog ∧ i.vars = [] ∧ Input.okWide C.prog (w.forCall tape i) .any w.heap.size f i ∧
      ((s.pre enc C.prog fn conds apart (w.forCall tape i).memory i.args ∧ X (w.forCall tape i).memory i.args) ∧ sizedMet enc C.prog fn (OpenSpec.ofChange s) apart (w.forCall tape i).memory i.args) ∧ a.holds C.prog (lone (Frame.enter C.prog f i.args .normal) [] (w.forCall tape i)))
    (contract : ∀ (W : World) (base : Nat) (args : Array Value) (ds gs : List (DataW H)) (before : List MemPlace),
      (∀ (j : Nat) t v, fn.params[j]? = some t → args[j]? = some v → Value.okWide C.prog W .any base t v) →
      DataW.Whole enc C.prog fn.params.toList s.vars apart W args.toList ds gs before →
      conds.all (PathCond.test C.prog ⟨fn.params.toList, ds, s.plain.varTypes C.prog, gs⟩) = true →
      W.ShapedOpen C.prog → X W args →
      a.holds C.prog (lone (Frame.enter C.prog f args .normal) [] W) →
      Calls C.prog f args W fun e W' => ∃ v, e = .returned v ∧ s.post enc C.prog fn apart fresh handsOn again W args v W') :
    ReturnsInHanded a C os f .any (fun w args => (s.pre enc C.prog fn conds apart w args ∧ X w args) ∧ sizedMet enc C.prog fn (OpenSpec.ofChange s) apart w args) (s.post enc C.prog fn apart fresh handsOn again) := by
  refine returnsInHanded_of_calls own started noInit witness ?_
  intro w tape i _ hsh _ hok hpre hholds
  obtain ⟨_, _, _, fn', hfn', _, _, _, _, hval⟩ := hok
  have e : fn' = fn := Option.some.inj (hfn'.symm.trans hfn)
  subst e
  obtain ⟨⟨⟨ds, gs, before, hw, hc⟩, hx⟩, hz⟩ := hpre
  have hw' := DataW.Whole.of_heap (w' := w.forCall tape i) (by rfl) hw
  refine (contract (w.forCall tape i) w.heap.size i.args ds gs before hval hw' hc hsh (hX _ _ _ (by rfl) hx) hholds).mono fun e W' ⟨v, he, hp⟩ => ?_
  subst he
  exact ChangeSpec.post_blind hp
theorem tPowS : (Tryz.prog.globals[1]?).map (·.type) = some 148 := by kernel_rfl
theorem cU64S : Tryz.prog.cellsOf 111 = 1 := by kernel_rfl
theorem cPowS : Tryz.prog.cellsOf 148 = 20 := by kernel_rfl
theorem gPowS : Tryz.prog.globalNamed "internal/strconv.uint64pow10" = some 1 := by kernel_rfl
theorem pow_at {W : World} {l : List (String × DataW Unit)} (i : Nat) (e : l[i]? = some ("internal/strconv.uint64pow10", Rows.laid_internal_strconv_uint64pow10)) (h : laidMet Tryz.prog l W) : Lib.TabIs Tryz.prog W "internal/strconv.uint64pow10" .u64 Lib.pow10Tab := by
  have h' := laid_at i e h
  have e : (Rows.laid_internal_strconv_uint64pow10 : DataW Unit) = Lib.tabData .u64 Lib.pow10Tab := by kernel_rfl
  rw [e] at h'
  exact Lib.tabIs_of_head gPowS tPowS Tryz.underlying148 Tryz.underlying111 cU64S cPowS h'
theorem tMonN : (Tryz.prog.globals[2]?).map (·.type) = some 158 := by kernel_rfl
theorem tDayN : (Tryz.prog.globals[4]?).map (·.type) = some 185 := by kernel_rfl
theorem cStrS : Tryz.prog.cellsOf 9 = 1 := by kernel_rfl
theorem cMonN : Tryz.prog.cellsOf 158 = 12 := by kernel_rfl
theorem cDayN : Tryz.prog.cellsOf 185 = 7 := by kernel_rfl
theorem gMonN : Tryz.prog.globalNamed "sundial/source.monthNames" = some 2 := by kernel_rfl
theorem gDayN : Tryz.prog.globalNamed "sundial/source.dayNames" = some 4 := by kernel_rfl
def monNS : List (List UInt8) := [[74, 97, 110], [70, 101, 98], [77, 97, 114], [65, 112, 114], [77, 97, 121], [74, 117, 110], [74, 117, 108], [65, 117, 103], [83, 101, 112], [79, 99, 116], [78, 111, 118], [68, 101, 99]]
def dayNS : List (List UInt8) := [[83, 117, 110], [77, 111, 110], [84, 117, 101], [87, 101, 100], [84, 104, 117], [70, 114, 105], [83, 97, 116]]
theorem blk_cellS {W : World} {g o : Nat} {v : Value} (h : W.cell? ⟨g, o, none⟩ = some v) : g < W.heap.size := by
  rcases Nat.lt_or_ge g W.heap.size with q | q
  · exact q
  · simp [World.cell?, Array.getElem?_eq_none q] at h
theorem srV_at {W : World} {l : List (String × DataW Unit)} (i j : Nat) (e1 : l[i]? = some ("sundial/source.monthNames", Rows.laid_sundial_source_monthNames)) (e2 : l[j]? = some ("sundial/source.dayNames", Rows.laid_sundial_source_dayNames)) (h : laidMet Tryz.prog l W) (hM : MxL W) : SrV W := by
  have h1 : laidMet Tryz.prog (("sundial/source.monthNames", .agg (monNS.map fun z => .lit (.string z))) :: l.drop (i + 1)) W := laid_at i e1 h
  have h2 : laidMet Tryz.prog (("sundial/source.dayNames", .agg (dayNS.map fun z => .lit (.string z))) :: l.drop (j + 1)) W := laid_at j e2 h
  have v1 := strs_of_head gMonN tMonN Tryz.underlying158 Tryz.underlying9 cStrS cMonN h1
  have v2 := strs_of_head gDayN tDayN Tryz.underlying185 Tryz.underlying9 cStrS cDayN h2
  have c1 : ∀ k (hk : k < monN.length), W.cell? ⟨2, k, none⟩ = some (.string monN[k]) := fun k hk => by
    rw [World.var?_cell gMonN v1 k]
    have hk : k < 12 := hk
    match k, hk with
    | 0, _ => rfl
    | 1, _ => rfl
    | 2, _ => rfl
    | 3, _ => rfl
    | 4, _ => rfl
    | 5, _ => rfl
    | 6, _ => rfl
    | 7, _ => rfl
    | 8, _ => rfl
    | 9, _ => rfl
    | 10, _ => rfl
    | 11, _ => rfl
  have c2 : ∀ k (hk : k < wdN.length), W.cell? ⟨4, k, none⟩ = some (.string wdN[k]) := fun k hk => by
    rw [World.var?_cell gDayN v2 k]
    have hk : k < 7 := hk
    match k, hk with
    | 0, _ => rfl
    | 1, _ => rfl
    | 2, _ => rfl
    | 3, _ => rfl
    | 4, _ => rfl
    | 5, _ => rfl
    | 6, _ => rfl
  exact ⟨c1, blk_cellS (c1 0 (by decide)), c2, blk_cellS (c2 0 (by decide)), hM⟩
end Go.Proofs.YtcmlcmokjgkciaaGreatDoor

namespace Go.Proofs.YtcmlcmokjgkciaaGreatDoor
set_option linter.unusedVariables false
set_option linter.unusedSimpArgs false
set_option maxRecDepth 100000
open Go.ChangeShapes Go.WideShapes Go.ChangeAt Go.RowKit Civ

theorem tMonthsS : (Tryz.prog.globals[0]?).map (·.type) = some 109 := by kernel_rfl
theorem cIntS : Tryz.prog.cellsOf 3 = 1 := by kernel_rfl
theorem cMonthsS : Tryz.prog.cellsOf 109 = 13 := by kernel_rfl
theorem gMonthsS : Tryz.prog.globalNamed "sundial/civil.months" = some 0 := by kernel_rfl
def monLS : List Int := [0, 31, 59, 90, 120, 151, 181, 212, 243, 273, 304, 334, 365]
theorem monLS_get : ∀ i : Nat, i < 13 → monLS.getD i 0 = mon i := by decide
theorem tab_at {W : World} {l : List (String × DataW Unit)} (i : Nat) (e : l[i]? = some ("sundial/civil.months", Rows.laid_sundial_civil_months)) (h : laidMet Tryz.prog l W) : Tab W := by
  have h' : laidMet Tryz.prog (("sundial/civil.months", Lib.tabData .i64 monLS) :: l.drop (i + 1)) W := laid_at i e h
  have hT := Lib.tabIs_of_head gMonthsS tMonthsS Tryz.underlying109 Tryz.underlying3 cIntS cMonthsS h'
  have hc : ∀ i : Nat, i < 13 → W.cell? ⟨0, i, none⟩ = some (.int .i64 (mon i)) := fun i hi => by
    rw [← monLS_get i hi]; exact hT.cell gMonthsS i hi
  refine ⟨hc, ?_⟩
  rcases Nat.lt_or_ge 0 W.heap.size with g | g
  · exact g
  · have := hc 0 (by omega)
    simp [World.cell?, Array.getElem?_eq_none g] at this
end Go.Proofs.YtcmlcmokjgkciaaGreatDoor
