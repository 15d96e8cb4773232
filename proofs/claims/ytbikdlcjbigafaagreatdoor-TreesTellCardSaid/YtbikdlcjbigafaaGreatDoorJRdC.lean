/-
  source: years, months, weekdays, days' numbers, two digits, names. · The contract of strings.Split, laid (the shelf's tool lay-plain printed the laying; the numbers by name). · The contract of strings.CutPrefix, laid (the shelf's tool lay-plain printed the laying; the numbers by name). · source: two digits; a text that is split; clocks, offsets.
-/
import Derived.Shelf.Strings.Split
import Derived.Shelf.Lays
import Derived.Shelf.Small.Wraps
import Derived.Lib.SplitLaws
import Derived.RegionTactic
import Derived.Test.YtbikdlcjbigafaaGreatDoorJRdB
import Derived.Test.YtbikdlcjbigafaaGreatDoorProg
namespace Go.Proofs.YtbikdlcjbigafaaGreatDoor
set_option linter.unusedVariables false
set_option linter.unusedSimpArgs false
open Go.ChangeShapes Go.WideShapes Go.ChangeAt Go.RowKit Civ

/-- a call that panics, in a region that draws its order: behind it the walk goes on under False. -/
theorem calls_fake {P : Program} {f : FuncId} {args : Array Value} {w : World} {G : World → Prop} {c : List PanicEntry} {R : Ending → World → Prop} (v : Value)
    (h : Calls P f args w fun e w' => e = .panicked c ∧ G w') (hp : ∀ w', G w' → R (.panicked c) w') (_hd : Hid False → R (.returned v) w) : Calls P f args w R :=
  h.mono fun e w' ⟨he, hg⟩ => he ▸ hp w' hg
/-- the variables that source reads. -/
structure SrV (w : World) : Prop where
  mo : ∀ i (h : i < monN.length), w.cell? ⟨1, i, none⟩ = some (.string monN[i])
  moz : 1 < w.heap.size
  dn : ∀ i (h : i < wdN.length), w.cell? ⟨6, i, none⟩ = some (.string wdN[i])
  dnz : 6 < w.heap.size
  mx : MxL w
theorem SrV.below {w w' : World} (h : SrV w) (hb : Below w.heap.size w w') : SrV w' :=
  ⟨fun i hi => (hb.cell (p := ⟨_, i, none⟩) h.moz).trans (h.mo i hi), Nat.lt_of_lt_of_le h.moz hb.size, fun i hi => (hb.cell (p := ⟨_, i, none⟩) h.dnz).trans (h.dn i hi), Nat.lt_of_lt_of_le h.dnz hb.size, h.mx.below hb⟩
theorem idxFromS_fidx (x : ByteArray) : ∀ (l : List ByteArray) (k : Nat), Lib.idxFromS l x k = if fidx (fun y => decide (y = x)) l < 0 then -1 else (k : Int) + fidx (fun y => decide (y = x)) l
  | [], k => rfl
  | y :: l, k => by
    have hlo := fidx_lo (fun y => decide (y = x)) l
    have e : fidx (fun y => decide (y = x)) (y :: l) = if decide (y = x) = true then 0 else if fidx (fun y => decide (y = x)) l < 0 then -1 else fidx (fun y => decide (y = x)) l + 1 := rfl
    rw [e]
    unfold Lib.idxFromS
    by_cases h : y = x
    · subst h
      simp
    · rw [idxFromS_fidx x l (k + 1)]
      simp only [h, decide_false, if_false, Bool.false_eq_true, beq_iff_eq]
      by_cases h2 : fidx (fun y => decide (y = x)) l < 0
      · simp [h2]
      · rw [if_neg h2, if_neg h2, if_neg (by omega)]
        omega
theorem idxOfS_fidx (l : List ByteArray) (x : ByteArray) : Lib.idxOfS l x = fidx (fun y => decide (y = x)) l := by
  have hlo := fidx_lo (fun y => decide (y = x)) l
  unfold Lib.idxOfS
  rw [idxFromS_fidx]
  split <;> omega
set_option maxRecDepth 100000 in
theorem ryear_any (s : ByteArray) (w : World) (hs : s.size ≤ maxLen) :
    Calls Tryz.prog 124 #[.string s] w fun e w' => e = PnE (yrS s).2 (.int .i64 (yrS s).1) ∧ Below w.heap.size w w' := by
  have HN := Lib.hid (number_any s 9999 w hs)
  clear hs
  have HY : Hid (yrS s = ((dcm (bl s) 9999).1, if (dcm (bl s) 9999).2 = 0 ∧ ¬ (1900 ≤ (dcm (bl s) 9999).1 ∧ (dcm (bl s) 9999).1 ≤ 2099) then 2 else (dcm (bl s) 9999).2)) := rfl
  generalize dcm (bl s) 9999 = D at *
  obtain ⟨v, E⟩ := D
  dsimp only at HN HY
  by_cases hE : E = 0
  · subst hE
    by_cases hv : 1900 ≤ v ∧ v ≤ 2099
    · have HY2 : Hid (yrS s = (v, 0)) := by show _ = _; rw [HY.out, if_neg (fun h => h.2 hv)]
      obtain ⟨h1, h2⟩ := hv
      have d1 : decide (1900 ≤ v) = true := decide_eq_true h1
      have d2 : decide (v ≤ 2099) = true := decide_eq_true h2
      clear HY
      go_enter Tryz.func124, Tryz.ntmps124
      go_wp2_with fail
      refine HN.out.mono ?_; rintro e w1 ⟨he, hb1⟩
      rw [PnE_ok rfl] at he
      subst he
      go_wp2_with (go_at_call 80; refine (need_yes _ _).mono ?_; rintro e w' ⟨rfl, rfl⟩)
      go_wp2
      go_ret
      exact ⟨by rw [HY2.out]; rfl, hb1⟩
    · have HY2 : Hid (yrS s = (v, 2)) := by show _ = _; rw [HY.out, if_pos ⟨rfl, hv⟩]
      clear HY
      by_cases h1 : 1900 ≤ v
      · have d1 : decide (1900 ≤ v) = true := decide_eq_true h1
        have d2 : decide (v ≤ 2099) = false := decide_eq_false (fun h => hv ⟨h1, h⟩)
        clear hv
        go_enter Tryz.func124, Tryz.ntmps124
        go_wp2_with fail
        refine HN.out.mono ?_; rintro e w1 ⟨he, hb1⟩
        rw [PnE_ok rfl] at he
        subst he
        go_wp2_with (go_at_call 80; refine (need_no _ _).mono ?_; rintro e w' ⟨rfl, rfl⟩)
        go_wp2
        exact ⟨rfl, by rw [HY2.out]; rfl, hb1⟩
      · have d1 : decide (1900 ≤ v) = false := decide_eq_false h1
        clear hv
        go_enter Tryz.func124, Tryz.ntmps124
        go_wp2_with fail
        refine HN.out.mono ?_; rintro e w1 ⟨he, hb1⟩
        rw [PnE_ok rfl] at he
        subst he
        go_wp2_with (go_at_call 80; refine (need_no _ _).mono ?_; rintro e w' ⟨rfl, rfl⟩)
        go_wp2
        exact ⟨rfl, by rw [HY2.out]; rfl, hb1⟩
  · have HY2 : Hid (yrS s = (v, E)) := by show _ = _; rw [HY.out, if_neg (fun h => hE h.1)]
    go_enter Tryz.func124, Tryz.ntmps124
    go_wp2_with fail
    refine HN.out.mono ?_; rintro e w1 ⟨he, hb1⟩
    rw [PnE_no hE] at he
    subst he
    go_wp2
    exact ⟨rfl, by rw [HY2.out, PnE_no hE], hb1⟩
set_option maxRecDepth 100000 in
theorem dayNumber_any (s : ByteArray) (w : World) (hs : s.size ≤ maxLen) :
    Calls Tryz.prog 163 #[.string s] w fun e w' => e = PnE (dnS s).2 (.int .i64 (dnS s).1) ∧ Below w.heap.size w w' := by
  have HN := Lib.hid (number_any s 31 w hs)
  clear hs
  have HP : Hid (0 ≤ (dcm (bl s) 31).1) := by
    show 0 ≤ _
    rcases hb : dcmBad (bl s) with _ | _
    · by_cases h : 31 < dval (bl s)
      · rw [dcm_big hb h]; decide
      · rw [dcm_val hb h]; exact (dcm_ok (l := s.data.toList) (most := 0) hb).2.1
    · rw [dcm_bad hb]; decide
  have HY : Hid (dnS s = ((dcm (bl s) 31).1, if (dcm (bl s) 31).2 = 0 ∧ (dcm (bl s) 31).1 = 0 then 2 else (dcm (bl s) 31).2)) := rfl
  generalize dcm (bl s) 31 = D at *
  obtain ⟨v, E⟩ := D
  dsimp only at HN HY HP
  by_cases hE : E = 0
  · subst hE
    by_cases hv : v = 0
    · have HY2 : Hid (dnS s = (v, 2)) := by show _ = _; rw [HY.out, if_pos ⟨rfl, hv⟩]
      have d1 : decide (1 ≤ v) = false := decide_eq_false (by omega)
      clear HY hv
      go_enter Tryz.func163, Tryz.ntmps163
      go_wp2_with fail
      refine HN.out.mono ?_; rintro e w1 ⟨he, hb1⟩
      rw [PnE_ok rfl] at he
      subst he
      go_wp2_with (go_at_call 80; refine (need_no _ _).mono ?_; rintro e w' ⟨rfl, rfl⟩)
      go_wp2
      exact ⟨rfl, by rw [HY2.out]; rfl, hb1⟩
    · have HY2 : Hid (dnS s = (v, 0)) := by show _ = _; rw [HY.out, if_neg (fun h => hv h.2)]
      have d1 : decide (1 ≤ v) = true := decide_eq_true (by have := HP.out; omega)
      clear HY hv
      go_enter Tryz.func163, Tryz.ntmps163
      go_wp2_with fail
      refine HN.out.mono ?_; rintro e w1 ⟨he, hb1⟩
      rw [PnE_ok rfl] at he
      subst he
      go_wp2_with (go_at_call 80; refine (need_yes _ _).mono ?_; rintro e w' ⟨rfl, rfl⟩)
      go_wp2
      go_ret
      exact ⟨by rw [HY2.out]; rfl, hb1⟩
  · have HY2 : Hid (dnS s = (v, E)) := by show _ = _; rw [HY.out, if_neg (fun h => hE h.1)]
    go_enter Tryz.func163, Tryz.ntmps163
    go_wp2_with fail
    refine HN.out.mono ?_; rintro e w1 ⟨he, hb1⟩
    rw [PnE_no hE] at he
    subst he
    go_wp2
    exact ⟨rfl, by rw [HY2.out, PnE_no hE], hb1⟩
theorem idxMon (s : ByteArray) (w : World) (h : SrV w) :
    Calls Tryz.prog 160 #[.slice (some ⟨1, 0, none⟩) 12 12, .string s] w fun e w' => e = .returned (.int .i64 (plcS monN s)) ∧ w = w' := by
  refine (Sh.slices_Index_string 1 0 12 12 monN s w (by decide) (by decide) (fun j hj => ?_)).mono ?_
  · rw [Nat.zero_add, h.mo j hj, List.getD_eq_getElem?_getD, List.getElem?_eq_getElem hj]
    rfl
  · rintro e w' ⟨rfl, rfl⟩
    exact ⟨by rw [idxOfS_fidx]; rfl, rfl⟩
theorem idxDay (s : ByteArray) (w : World) (h : SrV w) :
    Calls Tryz.prog 160 #[.slice (some ⟨6, 0, none⟩) 7 7, .string s] w fun e w' => e = .returned (.int .i64 (plcS wdN s)) ∧ w = w' := by
  refine (Sh.slices_Index_string 6 0 7 7 wdN s w (by decide) (by decide) (fun j hj => ?_)).mono ?_
  · rw [Nat.zero_add, h.dn j hj, List.getD_eq_getElem?_getD, List.getElem?_eq_getElem hj]
    rfl
  · rintro e w' ⟨rfl, rfl⟩
    exact ⟨by rw [idxOfS_fidx]; rfl, rfl⟩
set_option maxRecDepth 100000 in
theorem month_any (s : ByteArray) (w : World) (hV : SrV w) :
    Calls Tryz.prog 125 #[.string s] w fun e w' => e = PnE (monS s).2 (.int .i64 (monS s).1) ∧ w = w' := by
  have HI := Lib.hid (idxMon s w hV)
  have hb := fidx_lo (fun x => decide (x = s)) monN
  have hb1 : -1 ≤ plcS monN s ∧ plcS monN s < 12 := hb
  have HM : Hid (monS s = if plcS monN s < 0 then (0, 4) else (plcS monN s + 1, 0)) := rfl
  clear hb hV
  generalize plcS monN s = p at *
  obtain ⟨b0, b1⟩ := hb1
  by_cases hp : p < 0
  · have HM2 : Hid (monS s = (0, 4)) := HM.out.trans (if_pos hp)
    have d1 : decide (0 ≤ p) = false := decide_eq_false (by omega)
    clear HM hp
    go_enter Tryz.func125, Tryz.ntmps125
    go_wp2_with fail
    refine HI.out.mono ?_; rintro e w1 ⟨rfl, rfl⟩
    go_wp2_with (go_at_call 80; refine (need_no _ _).mono ?_; rintro e w' ⟨rfl, rfl⟩)
    go_wp2
    exact ⟨rfl, by rw [HM2.out]; rfl, rfl⟩
  · have HM2 : Hid (monS s = (p + 1, 0)) := HM.out.trans (if_neg hp)
    have hp0 : 0 ≤ p := by omega
    have d1 : decide (0 ≤ p) = true := decide_eq_true (by omega)
    clear HM hp
    go_enter Tryz.func125, Tryz.ntmps125
    go_wp2_with fail
    refine HI.out.mono ?_; rintro e w1 ⟨rfl, rfl⟩
    go_wp2_with (go_at_call 80; refine (need_yes _ _).mono ?_; rintro e w' ⟨rfl, rfl⟩)
    go_wp2
    go_ret
    exact ⟨by rw [HM2.out]; rfl, rfl⟩
set_option maxRecDepth 100000 in
theorem weekday_any_s (s : ByteArray) (w : World) (hV : SrV w) :
    Calls Tryz.prog 162 #[.string s] w fun e w' => e = PnE (wdS s).2 (.int .i64 (wdS s).1) ∧ w = w' := by
  have HI := Lib.hid (idxDay s w hV)
  have hb := fidx_lo (fun x => decide (x = s)) wdN
  have hb1 : -1 ≤ plcS wdN s ∧ plcS wdN s < 7 := hb
  have HM : Hid (wdS s = if plcS wdN s < 0 then (0, 4) else (plcS wdN s, 0)) := rfl
  clear hb hV
  generalize plcS wdN s = p at *
  obtain ⟨b0, b1⟩ := hb1
  by_cases hp : p < 0
  · have HM2 : Hid (wdS s = (0, 4)) := HM.out.trans (if_pos hp)
    have d1 : decide (0 ≤ p) = false := decide_eq_false (by omega)
    clear HM hp
    go_enter Tryz.func162, Tryz.ntmps162
    go_wp2_with fail
    refine HI.out.mono ?_; rintro e w1 ⟨rfl, rfl⟩
    go_wp2_with (go_at_call 80; refine (need_no _ _).mono ?_; rintro e w' ⟨rfl, rfl⟩)
    go_wp2
    exact ⟨rfl, by rw [HM2.out]; rfl, rfl⟩
  · have HM2 : Hid (wdS s = (p, 0)) := HM.out.trans (if_neg hp)
    have d1 : decide (0 ≤ p) = true := decide_eq_true (by omega)
    clear HM hp
    go_enter Tryz.func162, Tryz.ntmps162
    go_wp2_with fail
    refine HI.out.mono ?_; rintro e w1 ⟨rfl, rfl⟩
    go_wp2_with (go_at_call 80; refine (need_yes _ _).mono ?_; rintro e w' ⟨rfl, rfl⟩)
    go_wp2
    go_ret
    exact ⟨by rw [HM2.out]; rfl, rfl⟩
def nmE (s : ByteArray) : Int := if nameS s = true then 0 else 4
theorem nmE_no {s : ByteArray} (h : nameS s = false) : nmE s = 4 := by unfold nmE; rw [h]; rfl
theorem nmE_yes {s : ByteArray} (h : nameS s = true) : nmE s = 0 := by unfold nmE; rw [h]; rfl
set_option maxRecDepth 100000 in
theorem name_any_s (s : ByteArray) (w : World) (hs : s.size ≤ maxLen) :
    Calls Tryz.prog 81 #[.string s] w fun e w' => e = PnE (nmE s) (.string s) ∧ Below w.heap.size w w' := by
  have HN := Lib.hid (name_lit s w hs)
  clear hs
  rcases h : nameS s with _ | _
  · rw [h] at HN
    have HE : Hid (nmE s = 4) := nmE_no h
    clear h
    go_enter Tryz.func81, Tryz.ntmps81
    go_wp2_with fail
    refine HN.out.mono ?_; rintro e w1 ⟨rfl, hb1⟩
    go_wp2_with (go_at_call 80; refine (need_no _ _).mono ?_; rintro e w' ⟨rfl, rfl⟩)
    go_wp2
    exact ⟨rfl, by rw [HE.out]; rfl, hb1⟩
  · rw [h] at HN
    have HE : Hid (nmE s = 0) := nmE_yes h
    clear h
    go_enter Tryz.func81, Tryz.ntmps81
    go_wp2_with fail
    refine HN.out.mono ?_; rintro e w1 ⟨rfl, hb1⟩
    go_wp2_with (go_at_call 80; refine (need_yes _ _).mono ?_; rintro e w' ⟨rfl, rfl⟩)
    go_wp2
    go_ret
    exact ⟨by rw [HE.out]; rfl, hb1⟩
end Go.Proofs.YtbikdlcjbigafaaGreatDoor

namespace Go.Proofs.YtbikdlcjbigafaaGreatDoor
open Go.Shelf
def Sh.lays146_ren : Go.Shelf.Ren := ⟨fun | 146 => 45 | 221 => 75 | 268 => 121 | 138 => 84 | 143 => 86 | 195 => 130 | 197 => 88 | 218 => 131 | 219 => 134 | 260 => 135 | 217 => 151 | 225 => 168 | 224 => 169 | 267 => 170 | 266 => 179 | 314 => 189 | n => n, fun | 9 => 9 | 31 => 51 | 3 => 3 | 4 => 4 | 0 => 0 | 105 => 164 | 21 => 21 | 5 => 5 | 46 => 172 | 119 => 232 | 139 => 235 | 138 => 234 | 146 => 248 | 51 => 209 | n => n, fun | 1 => 2 | 3 => 3 | 4 => 4 | n => n⟩
theorem Sh.lays146 : Go.Proofs.Lays.n146 Tryz.prog Sh.lays146_ren := {
  mixed := by kernel_rfl
  f138 := Tryz.func84.trans (congrArg some (by kernel_rfl))
  f143 := Tryz.func86.trans (congrArg some (by kernel_rfl))
  f146 := Tryz.func45.trans (congrArg some (by kernel_rfl))
  f195 := Tryz.func130.trans (congrArg some (by kernel_rfl))
  f197 := Tryz.func88.trans (congrArg some (by kernel_rfl))
  f217 := Tryz.func151.trans (congrArg some (by kernel_rfl))
  f218 := Tryz.func131.trans (congrArg some (by kernel_rfl))
  f219 := Tryz.func134.trans (congrArg some (by kernel_rfl))
  f221 := Tryz.func75.trans (congrArg some (by kernel_rfl))
  f224 := Tryz.func169.trans (congrArg some (by kernel_rfl))
  f225 := Tryz.func168.trans (congrArg some (by kernel_rfl))
  f260 := Tryz.func135.trans (congrArg some (by kernel_rfl))
  f266 := Tryz.func179.trans (congrArg some (by kernel_rfl))
  f267 := Tryz.func170.trans (congrArg some (by kernel_rfl))
  f268 := Tryz.func121.trans (congrArg some (by kernel_rfl))
  f314 := Tryz.func189.trans (congrArg some (by kernel_rfl))
  t0 := Tryz.underlying0
  a0 := Tryz.isAgg0
  z0 := Tryz.sizeOf0
  v0 := Tryz.zeroValue0
  t3 := Tryz.underlying3
  a3 := Tryz.isAgg3
  z3 := Tryz.sizeOf3
  v3 := Tryz.zeroValue3
  t4 := Tryz.underlying4
  a4 := Tryz.isAgg4
  z4 := Tryz.sizeOf4
  v4 := Tryz.zeroValue4
  t5 := Tryz.underlying5
  a5 := Tryz.isAgg5
  z5 := Tryz.sizeOf5
  v5 := Tryz.zeroValue5
  t9 := Tryz.underlying9
  a9 := Tryz.isAgg9
  z9 := Tryz.sizeOf9
  v9 := Tryz.zeroValue9
  t21 := Tryz.underlying21
  a21 := Tryz.isAgg21
  z21 := Tryz.sizeOf21
  v21 := Tryz.zeroValue21
  t31 := Tryz.underlying51
  a31 := Tryz.isAgg51
  z31 := Tryz.sizeOf51
  v31 := Tryz.zeroValue51
  t46 := Tryz.underlying172
  a46 := Tryz.isAgg172
  z46 := Tryz.sizeOf172
  v46 := Tryz.zeroValue172
  t51 := Tryz.underlying209
  a51 := Tryz.isAgg209
  z51 := Tryz.sizeOf209
  v51 := Tryz.zeroValue209
  t105 := Tryz.underlying164
  a105 := Tryz.isAgg164
  z105 := Tryz.sizeOf164
  v105 := Tryz.zeroValue164
  t119 := Tryz.underlying232
  a119 := Tryz.isAgg232
  z119 := Tryz.sizeOf232
  t138 := Tryz.underlying234
  a138 := Tryz.isAgg234
  z138 := Tryz.sizeOf234
  v138 := Tryz.zeroValue234
  t139 := Tryz.underlying235
  a139 := Tryz.isAgg235
  z139 := Tryz.sizeOf235
  v139 := Tryz.zeroValue235
  t146 := Tryz.underlying248
  a146 := Tryz.isAgg248
  z146 := Tryz.sizeOf248
  v146 := Tryz.zeroValue248
  g1 := by kernel_rfl
  g3 := by kernel_rfl
  g4 := by kernel_rfl }
open Go.RowKit Go.Lib in
theorem Sh.strings_Split (s sep : ByteArray) (m : Int) (w : World) (hs : s.size < 4294967281) (hm : w.cell? ⟨2, 0, none⟩ = some (.int .i64 m)) (h1 : 1 ≤ sep.size) :
    Calls Tryz.prog 45 #[.string s, .string sep] w fun e w' =>
      e = .returned (.slice (some ⟨w.heap.size, 0, none⟩) (Lib.countB s sep + 1) (Lib.countB s sep + 1)) ∧ w' = w.alloc (.cells ((Lib.splitB sep 0 (Lib.countB s sep) s).map Value.string).toArray 9) := Any.strings_Split Sh.lays146 (by kernel_rfl) s sep m w hs hm h1
end Go.Proofs.YtbikdlcjbigafaaGreatDoor

namespace Go.Proofs.YtbikdlcjbigafaaGreatDoor
open Go.Shelf
def Sh.lays103_ren : Go.Shelf.Ren := ⟨fun | 103 => 161 | 210 => 186 | 206 => 196 | n => n, fun | 9 => 9 | 4 => 4 | 24 => 227 | 3 => 3 | n => n, fun | n => n⟩
theorem Sh.lays103 : Go.Proofs.Lays.n103 Tryz.prog Sh.lays103_ren := {
  mixed := by kernel_rfl
  f103 := Tryz.func161.trans (congrArg some (by kernel_rfl))
  f206 := Tryz.func196.trans (congrArg some (by kernel_rfl))
  f210 := Tryz.func186.trans (congrArg some (by kernel_rfl))
  t3 := Tryz.underlying3
  a3 := Tryz.isAgg3
  z3 := Tryz.sizeOf3
  v3 := Tryz.zeroValue3
  t4 := Tryz.underlying4
  a4 := Tryz.isAgg4
  z4 := Tryz.sizeOf4
  v4 := Tryz.zeroValue4
  t9 := Tryz.underlying9
  a9 := Tryz.isAgg9
  z9 := Tryz.sizeOf9
  v9 := Tryz.zeroValue9
  t24 := Tryz.underlying227
  a24 := Tryz.isAgg227
  z24 := Tryz.sizeOf227
  v24 := Tryz.zeroValue227 }
open Go.RowKit in
theorem Sh.strings_CutPrefix (s p : ByteArray) (w : World) :
    Calls Tryz.prog 161 #[.string s, .string p] w fun e w' => e = .returned (.tuple #[.string ⟨(Lib.trimPrefix s.data.toList p.data.toList).toArray⟩, .bool (Lib.hasPrefix s.data.toList p.data.toList)]) ∧ w' = w := Any.strings_CutPrefix Sh.lays103 s p w
end Go.Proofs.YtbikdlcjbigafaaGreatDoor

namespace Go.Proofs.YtbikdlcjbigafaaGreatDoor
set_option linter.unusedVariables false
set_option linter.unusedSimpArgs false
open Go.ChangeShapes Go.WideShapes Go.ChangeAt Go.RowKit Civ

theorem byI_at (s : ByteArray) (k : Nat) (h : k < s.size) : byI s k = ((s[k]).toNat : Int) := by
  unfold byI
  rw [List.getD_eq_getElem?_getD, List.getElem?_eq_getElem (by rw [bl_len]; exact h), ← bl_get s k h]
  rfl
theorem digB_bd {x : Int} (h : digB x = true) : 48 ≤ x ∧ x ≤ 57 := (digB_iff x).1 h
def twoE (s : ByteArray) : Int := if twoB s = true then 0 else 4
theorem twoE_no {s : ByteArray} (h : twoB s = false) : twoE s = 4 := by unfold twoE; rw [h]; rfl
theorem twoE_yes {s : ByteArray} (h : twoB s = true) : twoE s = 0 := by unfold twoE; rw [h]; rfl
set_option maxRecDepth 100000 in
set_option maxHeartbeats 1000000 in
theorem two_any (s : ByteArray) (w : World) (hs : s.size ≤ maxLen) :
    Calls Tryz.prog 187 #[.string s] w fun e w' => e = PnE (twoE s) (.int .i64 (twoV s)) ∧ Below w.heap.size w w' := by
  have hs' := maxLen_eq _ hs
  clear hs
  by_cases h2 : s.size = 2
  · have h0 : 0 < s.size := by omega
    have h1 : 1 < s.size := by omega
    have hsz : ((s.size : Int) == 2) = true := by rw [h2]; rfl
    have h00 : (0 : Int) < (s.size : Int) := by omega
    have h11 : (1 : Int) < (s.size : Int) := by omega
    have HT : Hid (twoB s = ((decide (48 ≤ byI s 0) && decide (byI s 0 ≤ 53)) && digB (byI s 1))) := by show _ = _; unfold twoB; rw [decide_eq_true h2, Bool.true_and]
    have HV : Hid (twoV s = 10 * (byI s 0 - 48) + (byI s 1 - 48)) := rfl
    rw [byI_at s 0 h0, byI_at s 1 h1] at HT HV
    obtain ⟨a, ha⟩ : ∃ a : Int, ((s[0]).toNat : Int) = a := ⟨_, rfl⟩
    obtain ⟨b, hb⟩ : ∃ b : Int, ((s[1]).toNat : Int) = b := ⟨_, rfl⟩
    rw [ha, hb] at HT HV
    clear h2
    obtain ⟨ra, hra⟩ : ∃ r, digB a = r := ⟨_, rfl⟩
    obtain ⟨rb, hrb⟩ : ∃ r, digB b = r := ⟨_, rfl⟩
    have HA := Lib.hid (fun w => digit_lit a ra w hra)
    have HB := Lib.hid (fun w => digit_lit b rb w hrb)
    cases ra with
    | false =>
      have HN : Hid (twoE s = 4) := by
        refine twoE_no ?_
        rw [HT.out]
        have : ¬ (48 ≤ a ∧ a ≤ 57) := fun h => by rw [(digB_iff a).2 h] at hra; cases hra
        by_cases e : 48 ≤ a
        · rw [decide_eq_false (show ¬ a ≤ 53 by omega)]; simp
        · rw [decide_eq_false e]; simp
      clear hra hrb HB HT HV
      go_enter Tryz.func187, Tryz.ntmps187
      go_wp2_with (first | (go_at_call 104; refine (HA.out _).mono ?_; rintro e w' ⟨rfl, rfl⟩) | (go_at_call 80; refine (need_no _ _).mono ?_; rintro e w' ⟨rfl, rfl⟩))
      go_wp2
      exact ⟨rfl, by rw [HN.out]; rfl, Below.refl _ _⟩
    | true =>
      obtain ⟨a1, a2⟩ := digB_bd hra
      cases rb with
      | false =>
        have HN : Hid (twoE s = 4) := twoE_no (by rw [HT.out, hrb]; simp)
        clear hra hrb HT HV
        go_enter Tryz.func187, Tryz.ntmps187
        go_wp2_with fail
        refine (HA.out _).mono ?_; rintro e w' ⟨rfl, rfl⟩
        go_wp2_with fail
        refine (HB.out _).mono ?_; rintro e w' ⟨rfl, rfl⟩
        go_wp2_with fail
        refine (need_no _ _).mono ?_; rintro e w' ⟨rfl, rfl⟩
        go_wp2
        exact ⟨rfl, by rw [HN.out]; rfl, Below.refl _ _⟩
      | true =>
        obtain ⟨b1, b2⟩ := digB_bd hrb
        by_cases h6 : a < 54
        · have HN : Hid (twoE s = 0) := twoE_yes (by rw [HT.out, hrb, decide_eq_true (show 48 ≤ a by omega), decide_eq_true (show a ≤ 53 by omega)]; rfl)
          clear hra hrb HT
          go_enter Tryz.func187, Tryz.ntmps187
          go_wp2_with fail
          refine (HA.out _).mono ?_; rintro e w' ⟨rfl, rfl⟩
          go_wp2_with fail
          refine (HB.out _).mono ?_; rintro e w' ⟨rfl, rfl⟩
          go_wp2_with fail
          refine (need_yes _ _).mono ?_; rintro e w' ⟨rfl, rfl⟩
          go_wp2_with fail
          go_quiet (fail)
          go_wp2
          go_ret
          refine ⟨?_, below_draws (Below.refl _ _) _⟩
          rw [HN.out, PnE_ok rfl]
          show Ending.returned (Value.int .i64 ((a - 48) * 10 + (b - 48))) = _
          exact ret_int (by rw [HV.out]; omega)
        · have HN : Hid (twoE s = 4) := twoE_no (by rw [HT.out, hrb, decide_eq_false (show ¬ a ≤ 53 by omega)]; simp)
          have d6 : decide (a < 54) = false := decide_eq_false h6
          clear hra hrb HT HV h6
          go_enter Tryz.func187, Tryz.ntmps187
          go_wp2_with fail
          refine (HA.out _).mono ?_; rintro e w' ⟨rfl, rfl⟩
          go_wp2_with fail
          refine (HB.out _).mono ?_; rintro e w' ⟨rfl, rfl⟩
          go_wp2_with fail
          refine (need_no _ _).mono ?_; rintro e w' ⟨rfl, rfl⟩
          go_wp2
          exact ⟨rfl, by rw [HN.out]; rfl, Below.refl _ _⟩
  · have HN : Hid (twoE s = 4) := twoE_no (by unfold twoB; rw [decide_eq_false h2]; rfl)
    have hsz : ((s.size : Int) == 2) = false := by rw [beq_eq_false_iff_ne]; omega
    clear h2
    go_enter Tryz.func187, Tryz.ntmps187
    go_wp2_with (go_at_call 80; refine (need_no _ _).mono ?_; rintro e w' ⟨rfl, rfl⟩)
    go_wp2
    exact ⟨rfl, by rw [HN.out]; rfl, Below.refl _ _⟩
end Go.Proofs.YtbikdlcjbigafaaGreatDoor
