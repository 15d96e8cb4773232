/-
  LinksLead: the walk. · A parameter of raw things. · A door's frame that keeps the world's shape; what source.Read asks of the listed variables: names of months and days; the table of powers of ten. · The table of months, beside what source.Read asks.
-/
import Derived.BigQuiet
import Derived.LaidLaws
import Derived.LaidMore
import Derived.Stop.Joined
import Derived.Stop.LaidErr
import Derived.HandedShaped
import Derived.Lib.LaidTab
import Derived.Lib.ItoaNum
import Derived.Test.YtbikdlcjbigafaaGreatDoorJRed
import Derived.Test.YtbikdlcjbigafaaGreatDoorJSpF
import Derived.Test.YtbikdlcjbigafaaGreatDoorJBase
import Derived.Test.YtbikdlcjbigafaaGreatDoorJKsB
import Derived.Test.YtbikdlcjbigafaaGreatDoorJRdA
import Derived.Test.YtbikdlcjbigafaaGreatDoorJShPrs
import Derived.Test.YtbikdlcjbigafaaGreatDoorJRdC
import Derived.Test.YtbikdlcjbigafaaGreatDoorJCivT
namespace Go.Proofs.YtbikdlcjbigafaaGreatDoor
set_option linter.unusedVariables false
set_option linter.unusedSimpArgs false
open Go.ChangeShapes Go.WideShapes Go.ChangeAt Go.RowKit Civ

set_option maxRecDepth 100000 in
set_option maxHeartbeats 4000000 in
theorem walkLinksLead (v : Value) (xs : List Rz) (n : Int) (W : World) (hs : SlAt W 4 RRz v xs) (hn : (Lit.int .i64 n).wf = true) (hV : (SrV W ∧ PwT W) ∧ Tab W) :
    Calls Tryz.prog 3 #[v, .int .i64 n] W fun e w' => e = .returned (.bool true) ∧ Below W.heap.size W w' := by
  have HZT := Lib.hid (zones_tells W hV.1.1 hV.2)
  have HRE := Lib.hid (fun wx (hb : Below W.heap.size W wx) => read_s v xs wx (hs.mono hb fun _ _ h => h) (hV.1.1.below hb) (hV.1.2.below hb) (hV.2.below hb))
  obtain ⟨va, vc, rfl, -⟩ := hs.shape
  have HTM := Lib.hid (fun wx (hb : Below W.heap.size W wx) => And.intro (hV.2.below hb) (hV.1.1.mx.below hb))
  have HS1 := Lib.hid (fun wx vr vz vl h hv => Spans_any (srcO xs) (bx oneWd) vr vz vl wx h hv)
  have HS3 := Lib.hid (fun wx vr vz vl h hv => Spans_any (srcO xs) (bx threeWd) vr vz vl wx h hv)
  have HS4 := Lib.hid (fun wx vr vz vl h hv => Spans_any (srcO xs) (bx fourWd) vr vz vl wx h hv)
  rw [(sp_three xs).1, (sp_three xs).2] at HS3
  rw [(sp_four xs).1, (sp_four xs).2] at HS4
  have hle := spV_le (srcO xs) (bx oneWd)
  obtain ⟨E, hE⟩ : ∃ e, spE (srcO xs) (bx oneWd) = e := ⟨_, rfl⟩
  obtain ⟨L, hL⟩ : ∃ l, spV (srcO xs) (bx oneWd) = l := ⟨_, rfl⟩
  rw [hE, hL] at HS1 HS3 HS4
  rw [hL] at hle
  rw [show bx oneWd = ⟨#[79, 110, 101, 47, 65]⟩ from rfl] at HS1
  rw [show bx threeWd = ⟨#[84, 104, 114, 101, 101]⟩ from rfl] at HS3
  rw [show bx fourWd = ⟨#[70, 111, 117, 114]⟩ from rfl] at HS4
  obtain ⟨O, hO⟩ : ∃ o, srcO xs = o := ⟨_, rfl⟩
  rw [hO] at HRE HS1 HS3 HS4
  obtain ⟨ok, hok⟩ : ∃ q, decide (srcE O = 0) = q := ⟨_, rfl⟩
  rw [hok] at HRE
  clear hE hL hO hok hs hV hn
  go_enter Tryz.func3, Tryz.ntmps3
  go_wp2_with fail
  refine HZT.out.mono ?_; rintro e w0 ⟨rfl, b0⟩
  have B0 := Lib.hid b0
  clear b0 HZT
  go_wp2_with fail
  refine (HRE.out _ B0.out).mono ?_; rintro e w1 ⟨vr, vz, vl, rfl, hx, b1⟩
  have K1 := Lib.hid (LkS.new (B0.out.trans (b1.mono B0.out.size)) hx)
  obtain ⟨a0, c0, rfl, -⟩ := hx.1.shape
  obtain ⟨a1, c1, rfl, -⟩ := hx.2.1.shape
  obtain ⟨a2, c2, rfl, -⟩ := hx.2.2.shape
  generalize O.rules.length = n0 at *
  generalize O.zones.length = n1 at *
  generalize O.links.length = n2 at *
  obtain ⟨W1, hW1⟩ : ∃ W1, W1 = w1.alloc (.cells #[.slice a0 n0 c0, .slice a1 n1 c1, .slice a2 n2 c2] 28) := ⟨_, rfl⟩
  rw [← hW1] at K1
  have H1 := Lib.hid hW1
  clear hW1 hx b1 HRE B0
  cases ok
  · go_upto_region 4 with fail
    rw [← H1.out]
    clear H1
    generalize w1.heap.size = B at *
    go_wp2
    go_ret
    exact ⟨ret_bool (by simp), K1.out.b⟩
  go_upto_region 4 with fail
  rw [← H1.out]
  clear H1
  generalize w1.heap.size = B at *
  obtain ⟨x0, x1, x2, xl⟩ := K1.out.cells
  go_wp2_with fail
  refine (HS1.out _ _ _ _ K1.out.s (HTM.out _ K1.out.b)).mono ?_; rintro e w2 ⟨u2, rfl, o2, b2⟩
  have K2 := Lib.hid (K1.out.next b2)
  obtain ⟨p2, q2, rfl⟩ := own_shape o2
  have O2 := Lib.hid o2
  clear x0 x1 x2 xl b2 HS1 K1 o2
  obtain ⟨x0, x1, x2, xl⟩ := K2.out.cells
  go_wp2_with fail
  refine (HS3.out _ _ _ _ K2.out.s (HTM.out _ K2.out.b)).mono ?_; rintro e w3 ⟨u3, rfl, o3, b3⟩
  have K3 := Lib.hid (K2.out.next b3)
  obtain ⟨p3, q3, rfl⟩ := own_shape o3
  have O3 := Lib.hid o3
  have P3 := Lib.hid (own_next O2.out b3)
  clear x0 x1 x2 xl b3 HS3 K2 o3 O2
  obtain ⟨x0, x1, x2, xl⟩ := K3.out.cells
  go_wp2_with fail
  refine (HS4.out _ _ _ _ K3.out.s (HTM.out _ K3.out.b)).mono ?_; rintro e w4 ⟨u4, rfl, o4, b4⟩
  have K4 := Lib.hid (K3.out.next b4)
  obtain ⟨p4, q4, rfl⟩ := own_shape o4
  have O4 := Lib.hid o4
  have P4 := Lib.hid (own_next P3.out b4)
  have R4 := Lib.hid (own_next O3.out b4)
  have HQ1 := Lib.hid (fun q => eqSpn_same _ _ _ _ L (w4.drewN q) (own_next P4.out (below_draws (Below.refl _ _) q)) (own_next R4.out (below_draws (Below.refl _ _) q)) hle)
  have HQ2 := Lib.hid (fun q => eqSpn_same _ _ _ _ L (w4.drewN q) (own_next R4.out (below_draws (Below.refl _ _) q)) (own_next O4.out (below_draws (Below.refl _ _) q)) hle)
  clear x0 x1 x2 xl b4 HS4 K3 o4 O3 P3
  have hee : (E == E) = true := by simp
  go_wp2_with fail
  refine (HQ1.out 0).mono ?_; rintro e w5 ⟨rfl, q5, rfl⟩
  go_wp2_with fail
  refine (HQ2.out _).mono ?_; rintro e w6 ⟨rfl, q6, rfl⟩
  go_wp2
  go_ret
  exact ⟨ret_bool (by simp), below_draws K4.out.b _⟩
end Go.Proofs.YtbikdlcjbigafaaGreatDoor

namespace Go.Proofs.YtbikdlcjbigafaaGreatDoor
set_option linter.unusedVariables false
set_option linter.unusedSimpArgs false
set_option maxRecDepth 100000
open Go.ChangeShapes Go.WideShapes Go.ChangeAt Go.RowKit Civ
theorem i6_wf {n : Int} (h : (Lit.int .i64 n).wf = true) : I6 n := by
  obtain ⟨h1, h2⟩ := bounds_i64 h
  exact ⟨h1, by omega⟩
section
variable {H : Type} {enc : TypeId × Value → H} {w : World} {r : Reach} {b0 b : Nat} {sp : Nat → Bool} {held : Bool} {fuel : Nat} {cs : List Value} {y : DataW H × List MemPlace} {v : Value} {d : DataW H} {p : List MemPlace}
theorem rdRawsZ (h : DataW.trod enc Tryz.prog w b sp held fuel 22 cs = some y) : ∃ v xs, cs = [v] ∧ SlAt w 4 RRz v xs :=
  slAt_of_trod Tryz.underlying22 cRaw (by omega) (fun m cs' z hz => by
    obtain ⟨k, a, b, c, e, w1, w2, w3, w4⟩ := rdRaw hz
    exact ⟨⟨k, a, b, c⟩, e, ⟨i6_wf w1, i6_wf w2, i6_wf w3, i6_wf w4⟩⟩) h
theorem openRawsZ (hv : Value.okWide Tryz.prog w r b0 22 v) (h : DataW.Trod enc Tryz.prog w b sp held 22 v d p) : ∃ xs, SlAt w 4 RRz v xs := by
  obtain ⟨a, len, cap, rfl⟩ := okWide_slice Tryz.underlying22 hv
  obtain ⟨fuel, hf⟩ := h
  obtain ⟨v', xs, e, h1⟩ := rdRawsZ hf
  have e' : [Value.slice a len cap] = [v'] := e
  simp only [List.cons.injEq, and_true] at e'
  subst e'
  exact ⟨xs, h1⟩
end
end Go.Proofs.YtbikdlcjbigafaaGreatDoor

namespace Go.Proofs.YtbikdlcjbigafaaGreatDoor
set_option linter.unusedVariables false
set_option linter.unusedSimpArgs false
set_option maxRecDepth 100000
open Go.ChangeShapes Go.WideShapes Go.ChangeAt Go.RowKit Civ

theorem ownS : ownKnob Tryz.prog.godebug = none := by kernel_rfl
theorem laidOutS : laidOutB Tryz.prog = true := by kernel_rfl
theorem laid_at {P : Program} {W : World} : ∀ {l : List (String × DataW Unit)} (i : Nat) {nm : String} {d : DataW Unit}, l[i]? = some (nm, d) → laidMet P l W → laidMet P ((nm, d) :: l.drop (i + 1)) W
  | [], _, _, _, e, _ => by simp at e
  | x :: l, 0, nm, d, e, h => by
    obtain rfl : x = (nm, d) := by simpa using e
    exact h
  | x :: l, i + 1, nm, d, e, h => laid_at i (by simpa using e) h.tail
theorem change_shapedS {H : Type} {enc : TypeId × Value → H} {a : Assume} {C : Checked} {os : Os} {f : FuncId} {fn : Func} {s : ChangeSpec} {conds : List PathCond} {apart fresh handsOn again : Bool} {X : World → Array Value → Prop}
    (hX : ∀ (w w' : World) (args : Array Value), w.heap = w'.heap → X w args → X w' args)
    (own : ownKnob C.prog.godebug = none) (started : os.Started) (noInit : C.prog.inits.idxOf? f = none) (hfn : C.prog.funcs[f]? = some fn)
    (witness : ∃ (w : World) (tape : Tape) (i : Input), w.os = os ∧ (w.forCall tape i).Shaped C.prog ∧ i.vars = [] ∧ Input.okWide C.prog (w.forCall tape i) .any w.heap.size f i ∧
      ((s.pre enc C.prog fn conds apart (w.forCall tape i).memory i.args ∧ X (w.forCall tape i).memory i.args) ∧ sizedMet enc C.prog fn (OpenSpec.ofChange s) apart (w.forCall tape i).memory i.args) ∧ a.holds C.prog (lone (Frame.enter C.prog f i.args .normal) [] (w.forCall tape i)))
    (contract : ∀ (W : World) (base : Nat) (args : Array Value) (ds gs : List (DataW H)) (before : List MemPlace),
      (∀ (j : Nat) t v, fn.params[j]? = some t → args[j]? = some v → Value.okWide C.prog W .any base t v) →
      DataW.Whole enc C.prog fn.params.toList s.vars apart W args.toList ds gs before →
      conds.all (PathCond.test C.prog ⟨fn.params.toList, ds, s.plain.varTypes C.prog, gs⟩) = true →
      W.ShapedOpen C.prog → X W args →
      a.holds C.prog (lone (Frame.enter C.prog f args .normal) [] W) →
      Calls C.prog f args W fun e W' => ∃ v, e = .returned v ∧ s.post enc C.prog fn apart fresh handsOn again W args v W') :
    ReturnsInHanded a C os f .any (fun w args => (s.pre enc C.prog fn conds apart w args ∧ X w args) ∧ sizedMet enc C.prog fn (OpenSpec.ofChange s) apart w args) (s.post enc C.prog fn apart fresh handsOn again) := by
  refine returnsInHanded_of_calls own started noInit witness ?_
  intro w tape i _ hsh _ hok hpre hholds
  obtain ⟨_, _, _, fn', hfn', _, _, _, _, hval⟩ := hok
  have e : fn' = fn := Option.some.inj (hfn'.symm.trans hfn)
  subst e
  obtain ⟨⟨⟨ds, gs, before, hw, hc⟩, hx⟩, hz⟩ := hpre
  have hw' := DataW.Whole.of_heap (w' := w.forCall tape i) (by rfl) hw
  refine (contract (w.forCall tape i) w.heap.size i.args ds gs before hval hw' hc hsh (hX _ _ _ (by rfl) hx) hholds).mono fun e W' ⟨v, he, hp⟩ => ?_
  subst he
  exact ChangeSpec.post_blind hp
theorem tPowS : (Tryz.prog.globals[5]?).map (·.type) = some 245 := by kernel_rfl
theorem cU64S : Tryz.prog.cellsOf 211 = 1 := by kernel_rfl
theorem cPowS : Tryz.prog.cellsOf 245 = 20 := by kernel_rfl
theorem gPowS : Tryz.prog.globalNamed "internal/strconv.uint64pow10" = some 5 := by kernel_rfl
theorem pow_at {W : World} {l : List (String × DataW Unit)} (i : Nat) (e : l[i]? = some ("internal/strconv.uint64pow10", Rows.laid_internal_strconv_uint64pow10)) (h : laidMet Tryz.prog l W) : Lib.TabIs Tryz.prog W "internal/strconv.uint64pow10" .u64 Lib.pow10Tab := by
  have h' := laid_at i e h
  have e : (Rows.laid_internal_strconv_uint64pow10 : DataW Unit) = Lib.tabData .u64 Lib.pow10Tab := by kernel_rfl
  rw [e] at h'
  exact Lib.tabIs_of_head gPowS tPowS Tryz.underlying245 Tryz.underlying211 cU64S cPowS h'
theorem tMonN : (Tryz.prog.globals[1]?).map (·.type) = some 226 := by kernel_rfl
theorem tDayN : (Tryz.prog.globals[6]?).map (·.type) = some 247 := by kernel_rfl
theorem cStrS : Tryz.prog.cellsOf 9 = 1 := by kernel_rfl
theorem cMonN : Tryz.prog.cellsOf 226 = 12 := by kernel_rfl
theorem cDayN : Tryz.prog.cellsOf 247 = 7 := by kernel_rfl
theorem gMonN : Tryz.prog.globalNamed "sundial/source.monthNames" = some 1 := by kernel_rfl
theorem gDayN : Tryz.prog.globalNamed "sundial/source.dayNames" = some 6 := by kernel_rfl
def monNS : List (List UInt8) := [[74, 97, 110], [70, 101, 98], [77, 97, 114], [65, 112, 114], [77, 97, 121], [74, 117, 110], [74, 117, 108], [65, 117, 103], [83, 101, 112], [79, 99, 116], [78, 111, 118], [68, 101, 99]]
def dayNS : List (List UInt8) := [[83, 117, 110], [77, 111, 110], [84, 117, 101], [87, 101, 100], [84, 104, 117], [70, 114, 105], [83, 97, 116]]
theorem blk_cellS {W : World} {g o : Nat} {v : Value} (h : W.cell? ⟨g, o, none⟩ = some v) : g < W.heap.size := by
  rcases Nat.lt_or_ge g W.heap.size with q | q
  · exact q
  · simp [World.cell?, Array.getElem?_eq_none q] at h
theorem srV_at {W : World} {l : List (String × DataW Unit)} (i j : Nat) (e1 : l[i]? = some ("sundial/source.monthNames", Rows.laid_sundial_source_monthNames)) (e2 : l[j]? = some ("sundial/source.dayNames", Rows.laid_sundial_source_dayNames)) (h : laidMet Tryz.prog l W) (hM : MxL W) : SrV W := by
  have h1 : laidMet Tryz.prog (("sundial/source.monthNames", .agg (monNS.map fun z => .lit (.string z))) :: l.drop (i + 1)) W := laid_at i e1 h
  have h2 : laidMet Tryz.prog (("sundial/source.dayNames", .agg (dayNS.map fun z => .lit (.string z))) :: l.drop (j + 1)) W := laid_at j e2 h
  have v1 := strs_of_head gMonN tMonN Tryz.underlying226 Tryz.underlying9 cStrS cMonN h1
  have v2 := strs_of_head gDayN tDayN Tryz.underlying247 Tryz.underlying9 cStrS cDayN h2
  have c1 : ∀ k (hk : k < monN.length), W.cell? ⟨1, k, none⟩ = some (.string monN[k]) := fun k hk => by
    rw [World.var?_cell gMonN v1 k]
    have hk : k < 12 := hk
    match k, hk with
    | 0, _ => rfl
    | 1, _ => rfl
    | 2, _ => rfl
    | 3, _ => rfl
    | 4, _ => rfl
    | 5, _ => rfl
    | 6, _ => rfl
    | 7, _ => rfl
    | 8, _ => rfl
    | 9, _ => rfl
    | 10, _ => rfl
    | 11, _ => rfl
  have c2 : ∀ k (hk : k < wdN.length), W.cell? ⟨6, k, none⟩ = some (.string wdN[k]) := fun k hk => by
    rw [World.var?_cell gDayN v2 k]
    have hk : k < 7 := hk
    match k, hk with
    | 0, _ => rfl
    | 1, _ => rfl
    | 2, _ => rfl
    | 3, _ => rfl
    | 4, _ => rfl
    | 5, _ => rfl
    | 6, _ => rfl
  exact ⟨c1, blk_cellS (c1 0 (by decide)), c2, blk_cellS (c2 0 (by decide)), hM⟩
end Go.Proofs.YtbikdlcjbigafaaGreatDoor

namespace Go.Proofs.YtbikdlcjbigafaaGreatDoor
set_option linter.unusedVariables false
set_option linter.unusedSimpArgs false
set_option maxRecDepth 100000
open Go.ChangeShapes Go.WideShapes Go.ChangeAt Go.RowKit Civ

theorem tMonthsS : (Tryz.prog.globals[0]?).map (·.type) = some 176 := by kernel_rfl
theorem cIntS : Tryz.prog.cellsOf 3 = 1 := by kernel_rfl
theorem cMonthsS : Tryz.prog.cellsOf 176 = 13 := by kernel_rfl
theorem gMonthsS : Tryz.prog.globalNamed "sundial/civil.months" = some 0 := by kernel_rfl
def monLS : List Int := [0, 31, 59, 90, 120, 151, 181, 212, 243, 273, 304, 334, 365]
theorem monLS_get : ∀ i : Nat, i < 13 → monLS.getD i 0 = mon i := by decide
theorem tab_at {W : World} {l : List (String × DataW Unit)} (i : Nat) (e : l[i]? = some ("sundial/civil.months", Rows.laid_sundial_civil_months)) (h : laidMet Tryz.prog l W) : Tab W := by
  have h' : laidMet Tryz.prog (("sundial/civil.months", Lib.tabData .i64 monLS) :: l.drop (i + 1)) W := laid_at i e h
  have hT := Lib.tabIs_of_head gMonthsS tMonthsS Tryz.underlying176 Tryz.underlying3 cIntS cMonthsS h'
  have hc : ∀ i : Nat, i < 13 → W.cell? ⟨0, i, none⟩ = some (.int .i64 (mon i)) := fun i hi => by
    rw [← monLS_get i hi]; exact hT.cell gMonthsS i hi
  refine ⟨hc, ?_⟩
  rcases Nat.lt_or_ge 0 W.heap.size with g | g
  · exact g
  · have := hc 0 (by omega)
    simp [World.cell?, Array.getElem?_eq_none g] at this
end Go.Proofs.YtbikdlcjbigafaaGreatDoor
