/-
  source: years, months, weekdays, days' numbers, two digits, names.
-/
import Derived.Test.YtcmlcmokjgkciaaGreatDoorJRdB
namespace Go.Proofs.YtcmlcmokjgkciaaGreatDoor
set_option linter.unusedVariables false
set_option linter.unusedSimpArgs false
open Go.ChangeShapes Go.WideShapes Go.ChangeAt Go.RowKit Civ

/-- a call that panics, in a region that draws its order: behind it the walk goes on under False. -/
theorem calls_fake {P : Program} {f : FuncId} {args : Array Value} {w : World} {G : World → Prop} {c : List PanicEntry} {R : Ending → World → Prop} (v : Value)
    (h : Calls P f args w fun e w' => e = .panicked c ∧ G w') (hp : ∀ w', G w' → R (.panicked c) w') (_hd : Hid False → R (.returned v) w) : Calls P f args w R :=
  h.mono fun e w' ⟨he, hg⟩ => he ▸ hp w' hg
/-- the variables that source reads. -/
structure SrV (w : World) : Prop where
  mo : ∀ i (h : i < monN.length), w.cell? ⟨2, i, none⟩ = some (.string monN[i])
  moz : 2 < w.heap.size
  dn : ∀ i (h : i < wdN.length), w.cell? ⟨4, i, none⟩ = some (.string wdN[i])
  dnz : 4 < w.heap.size
  mx : MxL w
theorem SrV.below {w w' : World} (h : SrV w) (hb : Below w.heap.size w w') : SrV w' :=
  ⟨fun i hi => (hb.cell (p := ⟨_, i, none⟩) h.moz).trans (h.mo i hi), Nat.lt_of_lt_of_le h.moz hb.size, fun i hi => (hb.cell (p := ⟨_, i, none⟩) h.dnz).trans (h.dn i hi), Nat.lt_of_lt_of_le h.dnz hb.size, h.mx.below hb⟩
theorem idxFromS_fidx (x : ByteArray) : ∀ (l : List ByteArray) (k : Nat), Lib.idxFromS l x k = if fidx (fun y => decide (y = x)) l < 0 then -1 else (k : Int) + fidx (fun y => decide (y = x)) l
  | [], k => rfl
  | y :: l, k => by
    have hlo := fidx_lo (fun y => decide (y = x)) l
    have e : fidx (fun y => decide (y = x)) (y :: l) = if decide (y = x) = true then 0 else if fidx (fun y => decide (y = x)) l < 0 then -1 else fidx (fun y => decide (y = x)) l + 1 := rfl
    rw [e]
    unfold Lib.idxFromS
    by_cases h : y = x
    · subst h
      simp
    · rw [idxFromS_fidx x l (k + 1)]
      simp only [h, decide_false, if_false, Bool.false_eq_true, beq_iff_eq]
      by_cases h2 : fidx (fun y => decide (y = x)) l < 0
      · simp [h2]
      · rw [if_neg h2, if_neg h2, if_neg (by omega)]
        omega
theorem idxOfS_fidx (l : List ByteArray) (x : ByteArray) : Lib.idxOfS l x = fidx (fun y => decide (y = x)) l := by
  have hlo := fidx_lo (fun y => decide (y = x)) l
  unfold Lib.idxOfS
  rw [idxFromS_fidx]
  split <;> omega
set_option maxRecDepth 100000 in
theorem ryear_any (s : ByteArray) (w : World) (hs : s.size ≤ maxLen) :
    Calls Tryz.prog 62 #[.string s] w fun e w' => e = PnE (yrS s).2 (.int .i64 (yrS s).1) ∧ Below w.heap.size w w' := by
  have HN := Lib.hid (number_any s 9999 w hs)
  clear hs
  have HY : Hid (yrS s = ((dcm (bl s) 9999).1, if (dcm (bl s) 9999).2 = 0 ∧ ¬ (1900 ≤ (dcm (bl s) 9999).1 ∧ (dcm (bl s) 9999).1 ≤ 2099) then 2 else (dcm (bl s) 9999).2)) := rfl
  generalize dcm (bl s) 9999 = D at *
  obtain ⟨v, E⟩ := D
  dsimp only at HN HY
  by_cases hE : E = 0
  · subst hE
    by_cases hv : 1900 ≤ v ∧ v ≤ 2099
    · have HY2 : Hid (yrS s = (v, 0)) := by show _ = _; rw [HY.out, if_neg (fun h => h.2 hv)]
      obtain ⟨h1, h2⟩ := hv
      have d1 : decide (1900 ≤ v) = true := decide_eq_true h1
      have d2 : decide (v ≤ 2099) = true := decide_eq_true h2
      clear HY
      go_enter Tryz.func62, Tryz.ntmps62
      go_wp2_with fail
      refine HN.out.mono ?_; rintro e w1 ⟨he, hb1⟩
      rw [PnE_ok rfl] at he
      subst he
      go_wp2_with (go_at_call 30; refine (need_yes _ _).mono ?_; rintro e w' ⟨rfl, rfl⟩)
      go_wp2
      go_ret
      exact ⟨by rw [HY2.out]; rfl, hb1⟩
    · have HY2 : Hid (yrS s = (v, 2)) := by show _ = _; rw [HY.out, if_pos ⟨rfl, hv⟩]
      clear HY
      by_cases h1 : 1900 ≤ v
      · have d1 : decide (1900 ≤ v) = true := decide_eq_true h1
        have d2 : decide (v ≤ 2099) = false := decide_eq_false (fun h => hv ⟨h1, h⟩)
        clear hv
        go_enter Tryz.func62, Tryz.ntmps62
        go_wp2_with fail
        refine HN.out.mono ?_; rintro e w1 ⟨he, hb1⟩
        rw [PnE_ok rfl] at he
        subst he
        go_wp2_with (go_at_call 30; refine (need_no _ _).mono ?_; rintro e w' ⟨rfl, rfl⟩)
        go_wp2
        exact ⟨rfl, by rw [HY2.out]; rfl, hb1⟩
      · have d1 : decide (1900 ≤ v) = false := decide_eq_false h1
        clear hv
        go_enter Tryz.func62, Tryz.ntmps62
        go_wp2_with fail
        refine HN.out.mono ?_; rintro e w1 ⟨he, hb1⟩
        rw [PnE_ok rfl] at he
        subst he
        go_wp2_with (go_at_call 30; refine (need_no _ _).mono ?_; rintro e w' ⟨rfl, rfl⟩)
        go_wp2
        exact ⟨rfl, by rw [HY2.out]; rfl, hb1⟩
  · have HY2 : Hid (yrS s = (v, E)) := by show _ = _; rw [HY.out, if_neg (fun h => hE h.1)]
    go_enter Tryz.func62, Tryz.ntmps62
    go_wp2_with fail
    refine HN.out.mono ?_; rintro e w1 ⟨he, hb1⟩
    rw [PnE_no hE] at he
    subst he
    go_wp2
    exact ⟨rfl, by rw [HY2.out, PnE_no hE], hb1⟩
set_option maxRecDepth 100000 in
theorem dayNumber_any (s : ByteArray) (w : World) (hs : s.size ≤ maxLen) :
    Calls Tryz.prog 102 #[.string s] w fun e w' => e = PnE (dnS s).2 (.int .i64 (dnS s).1) ∧ Below w.heap.size w w' := by
  have HN := Lib.hid (number_any s 31 w hs)
  clear hs
  have HP : Hid (0 ≤ (dcm (bl s) 31).1) := by
    show 0 ≤ _
    rcases hb : dcmBad (bl s) with _ | _
    · by_cases h : 31 < dval (bl s)
      · rw [dcm_big hb h]; decide
      · rw [dcm_val hb h]; exact (dcm_ok (l := s.data.toList) (most := 0) hb).2.1
    · rw [dcm_bad hb]; decide
  have HY : Hid (dnS s = ((dcm (bl s) 31).1, if (dcm (bl s) 31).2 = 0 ∧ (dcm (bl s) 31).1 = 0 then 2 else (dcm (bl s) 31).2)) := rfl
  generalize dcm (bl s) 31 = D at *
  obtain ⟨v, E⟩ := D
  dsimp only at HN HY HP
  by_cases hE : E = 0
  · subst hE
    by_cases hv : v = 0
    · have HY2 : Hid (dnS s = (v, 2)) := by show _ = _; rw [HY.out, if_pos ⟨rfl, hv⟩]
      have d1 : decide (1 ≤ v) = false := decide_eq_false (by omega)
      clear HY hv
      go_enter Tryz.func102, Tryz.ntmps102
      go_wp2_with fail
      refine HN.out.mono ?_; rintro e w1 ⟨he, hb1⟩
      rw [PnE_ok rfl] at he
      subst he
      go_wp2_with (go_at_call 30; refine (need_no _ _).mono ?_; rintro e w' ⟨rfl, rfl⟩)
      go_wp2
      exact ⟨rfl, by rw [HY2.out]; rfl, hb1⟩
    · have HY2 : Hid (dnS s = (v, 0)) := by show _ = _; rw [HY.out, if_neg (fun h => hv h.2)]
      have d1 : decide (1 ≤ v) = true := decide_eq_true (by have := HP.out; omega)
      clear HY hv
      go_enter Tryz.func102, Tryz.ntmps102
      go_wp2_with fail
      refine HN.out.mono ?_; rintro e w1 ⟨he, hb1⟩
      rw [PnE_ok rfl] at he
      subst he
      go_wp2_with (go_at_call 30; refine (need_yes _ _).mono ?_; rintro e w' ⟨rfl, rfl⟩)
      go_wp2
      go_ret
      exact ⟨by rw [HY2.out]; rfl, hb1⟩
  · have HY2 : Hid (dnS s = (v, E)) := by show _ = _; rw [HY.out, if_neg (fun h => hE h.1)]
    go_enter Tryz.func102, Tryz.ntmps102
    go_wp2_with fail
    refine HN.out.mono ?_; rintro e w1 ⟨he, hb1⟩
    rw [PnE_no hE] at he
    subst he
    go_wp2
    exact ⟨rfl, by rw [HY2.out, PnE_no hE], hb1⟩
theorem idxMon (s : ByteArray) (w : World) (h : SrV w) :
    Calls Tryz.prog 99 #[.slice (some ⟨2, 0, none⟩) 12 12, .string s] w fun e w' => e = .returned (.int .i64 (plcS monN s)) ∧ w = w' := by
  refine (Sh.slices_Index_string 2 0 12 12 monN s w (by decide) (by decide) (fun j hj => ?_)).mono ?_
  · rw [Nat.zero_add, h.mo j hj, List.getD_eq_getElem?_getD, List.getElem?_eq_getElem hj]
    rfl
  · rintro e w' ⟨rfl, rfl⟩
    exact ⟨by rw [idxOfS_fidx]; rfl, rfl⟩
theorem idxDay (s : ByteArray) (w : World) (h : SrV w) :
    Calls Tryz.prog 99 #[.slice (some ⟨4, 0, none⟩) 7 7, .string s] w fun e w' => e = .returned (.int .i64 (plcS wdN s)) ∧ w = w' := by
  refine (Sh.slices_Index_string 4 0 7 7 wdN s w (by decide) (by decide) (fun j hj => ?_)).mono ?_
  · rw [Nat.zero_add, h.dn j hj, List.getD_eq_getElem?_getD, List.getElem?_eq_getElem hj]
    rfl
  · rintro e w' ⟨rfl, rfl⟩
    exact ⟨by rw [idxOfS_fidx]; rfl, rfl⟩
set_option maxRecDepth 100000 in
theorem month_any (s : ByteArray) (w : World) (hV : SrV w) :
    Calls Tryz.prog 63 #[.string s] w fun e w' => e = PnE (monS s).2 (.int .i64 (monS s).1) ∧ w = w' := by
  have HI := Lib.hid (idxMon s w hV)
  have hb := fidx_lo (fun x => decide (x = s)) monN
  have hb1 : -1 ≤ plcS monN s ∧ plcS monN s < 12 := hb
  have HM : Hid (monS s = if plcS monN s < 0 then (0, 4) else (plcS monN s + 1, 0)) := rfl
  clear hb hV
  generalize plcS monN s = p at *
  obtain ⟨b0, b1⟩ := hb1
  by_cases hp : p < 0
  · have HM2 : Hid (monS s = (0, 4)) := HM.out.trans (if_pos hp)
    have d1 : decide (0 ≤ p) = false := decide_eq_false (by omega)
    clear HM hp
    go_enter Tryz.func63, Tryz.ntmps63
    go_wp2_with fail
    refine HI.out.mono ?_; rintro e w1 ⟨rfl, rfl⟩
    go_wp2_with (go_at_call 30; refine (need_no _ _).mono ?_; rintro e w' ⟨rfl, rfl⟩)
    go_wp2
    exact ⟨rfl, by rw [HM2.out]; rfl, rfl⟩
  · have HM2 : Hid (monS s = (p + 1, 0)) := HM.out.trans (if_neg hp)
    have hp0 : 0 ≤ p := by omega
    have d1 : decide (0 ≤ p) = true := decide_eq_true (by omega)
    clear HM hp
    go_enter Tryz.func63, Tryz.ntmps63
    go_wp2_with fail
    refine HI.out.mono ?_; rintro e w1 ⟨rfl, rfl⟩
    go_wp2_with (go_at_call 30; refine (need_yes _ _).mono ?_; rintro e w' ⟨rfl, rfl⟩)
    go_wp2
    go_ret
    exact ⟨by rw [HM2.out]; rfl, rfl⟩
set_option maxRecDepth 100000 in
theorem weekday_any_s (s : ByteArray) (w : World) (hV : SrV w) :
    Calls Tryz.prog 101 #[.string s] w fun e w' => e = PnE (wdS s).2 (.int .i64 (wdS s).1) ∧ w = w' := by
  have HI := Lib.hid (idxDay s w hV)
  have hb := fidx_lo (fun x => decide (x = s)) wdN
  have hb1 : -1 ≤ plcS wdN s ∧ plcS wdN s < 7 := hb
  have HM : Hid (wdS s = if plcS wdN s < 0 then (0, 4) else (plcS wdN s, 0)) := rfl
  clear hb hV
  generalize plcS wdN s = p at *
  obtain ⟨b0, b1⟩ := hb1
  by_cases hp : p < 0
  · have HM2 : Hid (wdS s = (0, 4)) := HM.out.trans (if_pos hp)
    have d1 : decide (0 ≤ p) = false := decide_eq_false (by omega)
    clear HM hp
    go_enter Tryz.func101, Tryz.ntmps101
    go_wp2_with fail
    refine HI.out.mono ?_; rintro e w1 ⟨rfl, rfl⟩
    go_wp2_with (go_at_call 30; refine (need_no _ _).mono ?_; rintro e w' ⟨rfl, rfl⟩)
    go_wp2
    exact ⟨rfl, by rw [HM2.out]; rfl, rfl⟩
  · have HM2 : Hid (wdS s = (p, 0)) := HM.out.trans (if_neg hp)
    have d1 : decide (0 ≤ p) = true := decide_eq_true (by omega)
    clear HM hp
    go_enter Tryz.func101, Tryz.ntmps101
    go_wp2_with fail
    refine HI.out.mono ?_; rintro e w1 ⟨rfl, rfl⟩
    go_wp2_with (go_at_call 30; refine (need_yes _ _).mono ?_; rintro e w' ⟨rfl, rfl⟩)
    go_wp2
    go_ret
    exact ⟨by rw [HM2.out]; rfl, rfl⟩
def nmE (s : ByteArray) : Int := if nameS s = true then 0 else 4
theorem nmE_no {s : ByteArray} (h : nameS s = false) : nmE s = 4 := by unfold nmE; rw [h]; rfl
theorem nmE_yes {s : ByteArray} (h : nameS s = true) : nmE s = 0 := by unfold nmE; rw [h]; rfl
set_option maxRecDepth 100000 in
theorem name_any_s (s : ByteArray) (w : World) (hs : s.size ≤ maxLen) :
    Calls Tryz.prog 31 #[.string s] w fun e w' => e = PnE (nmE s) (.string s) ∧ Below w.heap.size w w' := by
  have HN := Lib.hid (name_lit s w hs)
  clear hs
  rcases h : nameS s with _ | _
  · rw [h] at HN
    have HE : Hid (nmE s = 4) := nmE_no h
    clear h
    go_enter Tryz.func31, Tryz.ntmps31
    go_wp2_with fail
    refine HN.out.mono ?_; rintro e w1 ⟨rfl, hb1⟩
    go_wp2_with (go_at_call 30; refine (need_no _ _).mono ?_; rintro e w' ⟨rfl, rfl⟩)
    go_wp2
    exact ⟨rfl, by rw [HE.out]; rfl, hb1⟩
  · rw [h] at HN
    have HE : Hid (nmE s = 0) := nmE_yes h
    clear h
    go_enter Tryz.func31, Tryz.ntmps31
    go_wp2_with fail
    refine HN.out.mono ?_; rintro e w1 ⟨rfl, hb1⟩
    go_wp2_with (go_at_call 30; refine (need_yes _ _).mono ?_; rintro e w' ⟨rfl, rfl⟩)
    go_wp2
    go_ret
    exact ⟨by rw [HE.out]; rfl, hb1⟩
end Go.Proofs.YtcmlcmokjgkciaaGreatDoor
