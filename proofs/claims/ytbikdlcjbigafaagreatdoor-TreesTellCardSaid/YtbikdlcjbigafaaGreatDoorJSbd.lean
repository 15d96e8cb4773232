/-
  What is read is borne by a machine: numbers and texts of a source that is read. · A zone of one era, read: hours as seconds (plain). · The library tells: civil and zones (the walks of CivilTells and ZonesTells).
-/
import Derived.BigQuiet
import Derived.Test.YtbikdlcjbigafaaGreatDoorJRdF
import Derived.Test.YtbikdlcjbigafaaGreatDoorJRdI
import Derived.Test.YtbikdlcjbigafaaGreatDoorJRdA
import Derived.Test.YtbikdlcjbigafaaGreatDoorJRdE
import Derived.Test.YtbikdlcjbigafaaGreatDoorJLnT
import Derived.Test.YtbikdlcjbigafaaGreatDoorJSpF
namespace Go.Proofs.YtbikdlcjbigafaaGreatDoor
set_option linter.unusedVariables false
set_option linter.unusedSimpArgs false
open Go.ChangeShapes Go.WideShapes Go.ChangeAt Go.RowKit Civ

/-- numbers and texts of a source. -/
def SBd (s : Src) : Prop := (∀ r ∈ s.rules, R64 r) ∧ (∀ z ∈ s.zones, z.nm.size ≤ maxLen ∧ ∀ x ∈ z.eras, E64 x) ∧ ∀ l ∈ s.links, l.of.size ≤ maxLen ∧ l.nm.size ≤ maxLen
theorem slAt_mem {α : Type} {w : World} {sz : Nat} {R R' : List Value → α → Prop} {v : Value} {xs : List α} (h : SlAt w sz R v xs) (hR : ∀ cs, ∀ x ∈ xs, R cs x → R' cs x) : SlAt w sz R' v xs := by
  rcases h with h | ⟨b, off, cap, hv, h0, h1, h2, h3, h4⟩
  · exact .inl h
  · refine .inr ⟨b, off, cap, hv, h0, h1, h2, h3, fun i hi => ?_⟩
    obtain ⟨cs, c1, c2, c3⟩ := h4 i hi
    exact ⟨cs, c1, hR _ _ (List.getElem_mem hi) c2, c3⟩
theorem srcAt_of {w : World} {vr vz vl : Value} {s : Src} (h : SrX w vr vz vl s) (hb : SBd s) : SrcAt w vr vz vl s := by
  obtain ⟨h1, h2, h3⟩ := h
  obtain ⟨b1, b2, b3⟩ := hb
  refine ⟨slAt_mem h1 fun cs x hx e => ⟨e, b1 x hx⟩, slAt_mem h2 fun cs z hz e => ?_, slAt_mem h3 fun cs l hl e => ⟨e, b3 l hl⟩⟩
  obtain ⟨v, e1, e2⟩ := e
  exact ⟨v, e1, slAt_mem e2 fun cs x hx e => ⟨e, (b2 z hz).2 x hx⟩, (b2 z hz).1⟩
def Bd6 (n : Int) : Prop := -1000000 ≤ n ∧ n ≤ 1000000
theorem Bd6.i64 {n : Int} (h : Bd6 n) : I64 n := by
  obtain ⟨h1, h2⟩ := h
  have e1 : IntKind.i64.min = -9223372036854775808 := rfl
  have e2 : IntKind.i64.max = 9223372036854775807 := rfl
  unfold I64
  simp [Lit.wf, e1, e2]
  omega
theorem bd0 : Bd6 0 := ⟨by decide, by decide⟩
theorem dcm_bdd (s : ByteArray) (m : Int) (hm : 0 ≤ m) : 0 ≤ (dcm (bl s) m).1 ∧ (dcm (bl s) m).1 ≤ m := by
  cases hb : dcmBad (bl s) with
  | true => rw [dcm_bad hb]; exact ⟨Int.le_refl _, hm⟩
  | false =>
    by_cases h : m < dval (bl s)
    · rw [dcm_big hb h]; exact ⟨Int.le_refl _, hm⟩
    · rw [dcm_val hb h]
      have := (dcm_ok (l := s.data.toList) (most := m) hb).2.1
      exact ⟨this, by omega⟩
theorem bdK {n : Int} (h : n = 1 ∨ n = 2) : Bd6 n := by rcases h with rfl | rfl <;> exact ⟨by decide, by decide⟩
theorem yrS_bd (s : ByteArray) : Bd6 (yrS s).1 := by
  have h := dcm_bdd s 9999 (by decide)
  show Bd6 (dcm (bl s) 9999).1
  exact ⟨by omega, by omega⟩
theorem dnS_bd (s : ByteArray) : Bd6 (dnS s).1 := by
  have h := dcm_bdd s 31 (by decide)
  show Bd6 (dcm (bl s) 31).1
  exact ⟨by omega, by omega⟩
theorem fidx_up {α : Type} (p : α → Bool) : ∀ l : List α, fidx p l ≤ l.length
  | [] => by show (-1 : Int) ≤ 0; decide
  | x :: l => by
    have ih := fidx_up p l
    show (if p x = true then (0 : Int) else if fidx p l < 0 then -1 else fidx p l + 1) ≤ ((l.length + 1 : Nat) : Int)
    split
    · omega
    · split <;> omega
theorem monS_bd (s : ByteArray) : Bd6 (monS s).1 := by
  unfold monS
  have h : plcS monN s ≤ 12 := fidx_up _ monN
  split
  · exact bd0
  · exact ⟨by show _ ≤ plcS monN s + 1; omega, by show plcS monN s + 1 ≤ _; omega⟩
theorem wdS_bd (s : ByteArray) : Bd6 (wdS s).1 := by
  unfold wdS
  have h : plcS wdN s ≤ 7 := fidx_up _ wdN
  split
  · exact bd0
  · exact ⟨by show _ ≤ plcS wdN s; omega, by show plcS wdN s ≤ _; omega⟩
theorem hrs_bd (s : ByteArray) (m : Int) (h : 0 ≤ m) (h2 : m ≤ 1000000) : Bd6 (hrsS s m).1 := by
  have := hrsS_rng s m h
  exact ⟨by omega, by omega⟩
theorem offS_bd (s : ByteArray) : Bd6 (offS s).1 := by
  unfold offS
  split
  · have := hrsS_rng (dropB s 1) 86400 (by decide)
    exact ⟨by show _ ≤ -(hrsS (dropB s 1) 86400).1; omega, by show -(hrsS (dropB s 1) 86400).1 ≤ _; omega⟩
  · exact hrs_bd s 86400 (by decide) (by decide)
theorem dyC_bd (k : Int) (hk : Bd6 k) (s : ByteArray) (i : Nat) : Bd6 (dyC k s i).1.k ∧ Bd6 (dyC k s i).1.a ∧ Bd6 (dyC k s i).1.n := by
  unfold dyC
  split
  · exact ⟨bd0, bd0, bd0⟩
  · exact ⟨hk, wdS_bd _, dnS_bd _⟩
theorem dyS_bd (s : ByteArray) : Bd6 (dyS s).1.k ∧ Bd6 (dyS s).1.a ∧ Bd6 (dyS s).1.n := by
  unfold dyS
  split
  · exact ⟨bdK (.inr rfl), wdS_bd _, bd0⟩
  · split
    · exact dyC_bd 3 ⟨by decide, by decide⟩ s _
    · split
      · exact dyC_bd 4 ⟨by decide, by decide⟩ s _
      · exact ⟨bdK (.inl rfl), bd0, dnS_bd _⟩
theorem ckC_bd (c : Int) : Bd6 (ckC c) := by
  unfold ckC
  split
  · exact bd0
  · split
    · exact ⟨by decide, by decide⟩
    · split <;> exact ⟨by decide, by decide⟩
theorem tmS_bd (s : ByteArray) : Bd6 (tmS s).1.1 ∧ Bd6 (tmS s).1.2 := by
  unfold tmS
  split
  · split
    · exact ⟨bd0, bd0⟩
    · exact ⟨hrs_bd _ _ (by decide) (by decide), ckC_bd _⟩
  · exact ⟨hrs_bd _ _ (by decide) (by decide), bd0⟩
theorem toS_bd (w : List ByteArray) : Bd6 (toS w).1 := by
  unfold toS
  split
  · exact yrS_bd _
  · split
    · exact ⟨by decide, by decide⟩
    · exact yrS_bd _
theorem wAt_le {w : List ByteArray} {m : Nat} (h : ∀ x ∈ w, x.size ≤ m) (k : Nat) : (wAt w k).size ≤ m := by
  unfold wAt
  rw [List.getD_eq_getElem?_getD]
  cases hx : w[k]? with
  | none => exact Nat.zero_le _
  | some x => exact h x (List.mem_of_getElem? hx)
theorem rulV_bd {w : List ByteArray} (h : ∀ x ∈ w, x.size ≤ maxLen) : R64 (rulV w) := by
  refine ⟨wAt_le h 1, (yrS_bd _).i64, (toS_bd _).i64, ⟨(monS_bd _).i64, (dyS_bd _).1.i64, (dyS_bd _).2.1.i64, (dyS_bd _).2.2.i64, (tmS_bd _).1.i64, (tmS_bd _).2.i64⟩, (offS_bd _).i64, ?_⟩
  show (if wAt w 9 = dashS then ByteArray.empty else wAt w 9).size ≤ maxLen
  split
  · exact Nat.zero_le _
  · exact wAt_le h 9
theorem erUn_bd (w : List ByteArray) : M64 (erUn w) := by
  unfold erUn
  have one : Bd6 1 := ⟨by decide, by decide⟩
  split
  · exact ⟨bd0.i64, bd0.i64, bd0.i64, bd0.i64, bd0.i64, bd0.i64⟩
  · refine ⟨?_, ?_, ?_, ?_, ?_, ?_⟩
    · show I64 (if _ then _ else _); split; exact (monS_bd _).i64; exact one.i64
    · show I64 (if _ then _ else _); split; exact (dyS_bd _).1.i64; exact one.i64
    · show I64 (if _ then _ else _); split; exact (dyS_bd _).2.1.i64; exact bd0.i64
    · show I64 (if _ then _ else _); split; exact (dyS_bd _).2.2.i64; exact one.i64
    · show I64 (if _ then _ else _); split; exact (tmS_bd _).1.i64; exact bd0.i64
    · show I64 (if _ then _ else _); split; exact (tmS_bd _).2.i64; exact bd0.i64
theorem erV_bd {w : List ByteArray} (h : ∀ x ∈ w, x.size ≤ maxLen) : E64 (erV w) := by
  refine ⟨(offS_bd _).i64, ?_, ?_, wAt_le h 2, ?_, erUn_bd w⟩
  · show (erRl w).size ≤ maxLen
    unfold erRl
    split
    · exact Nat.zero_le _
    · split
      · exact Nat.zero_le _
      · exact wAt_le h 1
  · show I64 (erSv w)
    unfold erSv
    split
    · exact bd0.i64
    · split
      · exact (offS_bd _).i64
      · exact bd0.i64
  · show I64 (if w.length = 3 then 0 else (yrS (wAt w 3)).1)
    split
    · exact bd0.i64
    · exact (yrS_bd _).i64
theorem lnV_bd {st : RdS} {w : List ByteArray} (hs : SBd st.s) (h : ∀ x ∈ w, x.size ≤ maxLen) : SBd (lnV st w).s := by
  obtain ⟨b1, b2, b3⟩ := hs
  unfold lnV
  split
  · exact ⟨b1, b2, b3⟩
  · split
    · refine ⟨b1, fun z hz => ?_, b3⟩
      have hz : z ∈ addE st.s.zones (erV w) := hz
      unfold addE at hz
      split at hz
      · rename_i z0 h0
        have hm := List.mem_of_getLast? h0
        rcases List.mem_append.1 hz with hz | hz
        · exact b2 z (List.dropLast_subset _ hz)
        · rw [List.mem_singleton.1 hz]
          refine ⟨(b2 z0 hm).1, fun x hx => ?_⟩
          have hx : x ∈ z0.eras ++ [erV w] := hx
          rcases List.mem_append.1 hx with hx | hx
          · exact (b2 z0 hm).2 x hx
          · rw [List.mem_singleton.1 hx]; exact erV_bd h
      · exact b2 z hz
    · split
      · refine ⟨fun r hr => ?_, b2, b3⟩
        rcases List.mem_append.1 hr with hr | hr
        · exact b1 r hr
        · rw [List.mem_singleton.1 hr]; exact rulV_bd h
      · split
        · refine ⟨b1, fun z hz => ?_, b3⟩
          rcases List.mem_append.1 hz with hz | hz
          · exact b2 z hz
          · rw [List.mem_singleton.1 hz]
            refine ⟨wAt_le h 1, fun x hx => ?_⟩
            have hx : x ∈ [erV (w.drop 2)] := hx
            rw [List.mem_singleton.1 hx]
            exact erV_bd fun y hy => h y (List.drop_subset _ _ hy)
        · refine ⟨b1, b2, fun l hl => ?_⟩
          rcases List.mem_append.1 hl with hl | hl
          · exact b3 l hl
          · rw [List.mem_singleton.1 hl]; exact ⟨wAt_le h 1, wAt_le h 2⟩
theorem linsF_bd : ∀ (L : List (List UInt8)) (st : RdS) (i : Nat), SBd st.s → (∀ l ∈ L, l.length ≤ maxLen) → SBd (linsF st i L).1.1.s
  | [], st, i, hs, _ => hs
  | l :: L, st, i, hs, h => by
    show SBd (if linE st l ≠ 0 then ((st, i + 1), linE st l) else linsF (linV st l) (i + 1) L).1.1.s
    split
    · exact hs
    · refine linsF_bd L _ _ (lnV_bd hs fun x hx => Nat.le_trans (wdsS_size l x hx) (h l (by simp))) fun l' hl => h l' (by simp [hl])
theorem src0_bd : SBd src0 := ⟨fun r h => absurd h (by simp [src0]), fun r h => absurd h (by simp [src0]), fun r h => absurd h (by simp [src0])⟩
/-- whatever is read is borne by a machine. -/
theorem srcV_bd (s : ByteArray) (hs : s.size ≤ maxLen) : SBd (srcV s) := by
  unfold srcV
  split
  · exact src0_bd
  · refine linsF_bd _ _ _ src0_bd fun l hl => ?_
    have h1 := splB_size 10 s.data.toList [] l hl
    have h2 : s.data.toList.length = s.size := by simp
    simp only [List.length_nil] at h1
    omega
end Go.Proofs.YtbikdlcjbigafaaGreatDoor

namespace Go.Proofs.YtbikdlcjbigafaaGreatDoor
set_option linter.unusedVariables false
set_option linter.unusedSimpArgs false
open Go.ChangeShapes Go.WideShapes Go.ChangeAt Go.RowKit Civ

/-- 'Zone A T - X'. -/
def zoT (T : Wd) : Wd := [90, 111, 110, 101, 32, 65, 32] ++ (T ++ [32, 45, 32, 88])
def zoS (K : Int) : Src := ⟨[], [⟨bx [65], [⟨K, ByteArray.empty, 0, bx [88], false, 0, ⟨0, 0, 0, 0, 0, 0⟩⟩]⟩], []⟩
theorem zo_read (T : Wd) (K : Int) (hT : wok T = true) (hO : offS (bx T) = (K, 0)) : srcX (bx (zoT T)) = 0 ∧ srcL (bx (zoT T)) = 0 ∧ srcV (bx (zoT T)) = zoS K := by
  have hw : ([zonWd, [65], T, [45], [88]] : List Wd).all wok = true := by
    simp only [List.all_cons, List.all_nil, hT, Bool.true_and, Bool.and_true]
    decide +kernel
  have hj : joinT [zonWd, [65], T, [45], [88]] = zoT T := rfl
  have hlen : (zoT T).length ≤ 40 := by
    have := ((wok_iff T).1 hT).2.1
    unfold zoT
    simp only [List.length_append, List.length_cons, List.length_nil]
    omega
  have hl : linesS (bx (zoT T)) = [zoT T] := by
    show splB 10 [] (zoT T) = [zoT T]
    have hn := join_nl _ hw
    rw [hj] at hn
    have h : ∀ (w cur : Wd), (10 : UInt8) ∉ w → splB 10 cur w = [cur ++ w] := by
      intro w
      induction w with
      | nil => intro cur _; simp [splB]
      | cons c w ih =>
        intro cur h
        show (if c = 10 then cur :: splB 10 [] w else splB 10 (cur ++ [c]) w) = _
        rw [if_neg (fun e => h (by simp [e])), ih _ (fun e => h (by simp [e]))]
        simp
    simpa using h _ [] hn
  have hb : ([zonWd, [65], T, [45], [88]] : List Wd).map bx = [zoneW, bx [65], bx T, dashS, bx [88]] := rfl
  have he : erE ([zoneW, bx [65], bx T, dashS, bx [88]].drop 2) = 0 := by
    show erE [bx T, dashS, bx [88]] = 0
    unfold erE
    have e1 : er1S [bx T, dashS, bx [88]] = 0 := if_pos rfl
    have e2 : fmtL (wAt [bx T, dashS, bx [88]] 2).data.toList = true := by show fmtL [88] = true; decide +kernel
    have e3 : wAt [bx T, dashS, bx [88]] 0 = bx T := rfl
    rw [e1, e2, e3, hO]
    rfl
  have hv : erV ([zoneW, bx [65], bx T, dashS, bx [88]].drop 2) = ⟨K, ByteArray.empty, 0, bx [88], false, 0, ⟨0, 0, 0, 0, 0, 0⟩⟩ := by
    show erV [bx T, dashS, bx [88]] = _
    have e1 : erRl [bx T, dashS, bx [88]] = ByteArray.empty := if_pos rfl
    have e2 : erSv [bx T, dashS, bx [88]] = 0 := if_pos rfl
    have e3 : wAt [bx T, dashS, bx [88]] 0 = bx T := rfl
    have e4 : erUn [bx T, dashS, bx [88]] = ⟨0, 0, 0, 0, 0, 0⟩ := if_pos rfl
    unfold erV
    rw [e1, e2, e3, e4, hO]
    rfl
  have hE : linE rd0 (zoT T) = 0 := by
    rw [← hj, linE_join hw, hb]
    have hn : nameS (bx [65]) = true := by decide +kernel
    have hr : ¬ wAt [zoneW, bx [65], bx T, dashS, bx [88]] 0 = ruleW := by show ¬ zoneW = ruleW; intro h; exact absurd (bx_inj h) (by decide)
    unfold lnE
    have hz0 : wAt [zoneW, bx [65], bx T, dashS, bx [88]] 0 = zoneW := rfl
    rw [if_neg (by simp), if_neg (by simp [rd0]), if_neg hr, if_pos hz0, if_neg (by show ¬ (_ ∨ nameS (bx [65]) = false); rw [hn]; simp)]
    exact he
  have hV : linV rd0 (zoT T) = ⟨zoS K, false⟩ := by
    rw [← hj, linV_join hw, hb]
    have hr : ¬ wAt [zoneW, bx [65], bx T, dashS, bx [88]] 0 = ruleW := by show ¬ zoneW = ruleW; intro h; exact absurd (bx_inj h) (by decide)
    unfold lnV
    have hz0 : wAt [zoneW, bx [65], bx T, dashS, bx [88]] 0 = zoneW := rfl
    rw [if_neg (by simp), if_neg (by simp [rd0]), if_neg hr, if_pos hz0, hv]
    rfl
  have hF : linsF rd0 0 (linesS (bx (zoT T))) = ((⟨zoS K, false⟩, 1), 0) := by
    rw [hl]
    show (if linE rd0 (zoT T) ≠ 0 then _ else linsF (linV rd0 (zoT T)) (0 + 1) []) = _
    rw [if_neg (by simp [hE]), hV]
    rfl
  have hz : ¬ 8000 < (bx (zoT T)).size := by rw [bx_size]; omega
  have hn2 : ¬ 200 < (linesS (bx (zoT T))).length := by rw [hl]; show ¬ 200 < 1; decide
  have hbig : ¬ (8000 < (bx (zoT T)).size ∨ 200 < (linesS (bx (zoT T))).length) := by rintro (h | h); exact hz h; exact hn2 h
  refine ⟨?_, ?_, ?_⟩
  · unfold srcX; rw [if_neg hbig, hF]; rfl
  · unfold srcL; rw [if_neg hbig, hF]; rfl
  · unfold srcV; rw [hF, if_neg (by rintro (h | h | h | h); exact hz h; exact hn2 h; exact h rfl; cases h)]
end Go.Proofs.YtbikdlcjbigafaaGreatDoor

namespace Go.Proofs.YtbikdlcjbigafaaGreatDoor
set_option linter.unusedVariables false
set_option linter.unusedSimpArgs false
open Go.ChangeShapes Go.WideShapes Go.ChangeAt Go.RowKit Civ

theorem telE : spE (zoS 3600) (bx [65]) = 0 := by decide +kernel
theorem telV : spV (zoS 3600) (bx [65]) = [⟨-2208988800, ⟨3600, false, bx [88]⟩⟩] := by kernel_rfl
theorem civil_tells (w : World) (hT : Tab w) : Calls Tryz.prog 29 #[] w fun e w' => e = .returned (.bool true) ∧ Below w.heap.size w w' := by
  have HD := Lib.hid (days_ok 2000 2 w hT (by omega) (by omega) (by omega) (by omega))
  rw [show dim 2000 2 = 29 from by decide] at HD
  clear hT
  go_enter Tryz.func29, Tryz.ntmps29
  go_wp2_with fail
  refine (winIn _).mono ?_; rintro e w' ⟨rfl, rfl⟩
  go_wp2_with fail
  refine HD.out.mono ?_; rintro e w1 ⟨rfl, n, rfl⟩
  go_wp2
  go_ret
  exact ⟨ret_bool (by simp), below_draws (Below.refl _ _) n⟩
set_option maxRecDepth 100000 in
set_option maxHeartbeats 4000000 in
theorem zones_tells (w : World) (hV : SrV w) (hT : Tab w) : Calls Tryz.prog 7 #[] w fun e w' => e = .returned (.bool true) ∧ Below w.heap.size w w' := by
  obtain ⟨r1, r2, r3⟩ := zo_read [49, 58, 48, 48] 3600 (by decide +kernel) (by decide +kernel)
  have HR := Lib.hid (Read_any (bx (zoT [49, 58, 48, 48])) w hV (by rw [bx_size]; decide))
  rw [r1, r2, r3, show bx (zoT [49, 58, 48, 48]) = ⟨#[90, 111, 110, 101, 32, 65, 32, 49, 58, 48, 48, 32, 45, 32, 88]⟩ from rfl] at HR
  have sb := srcV_bd (bx (zoT [49, 58, 48, 48])) (by rw [bx_size]; decide)
  rw [r3] at sb
  have HZ : Hid ((zoS 3600).zones.length = 1) := (show (zoS 3600).zones.length = 1 from rfl)
  have HRL : Hid ((zoS 3600).rules.length = 0) := (show (zoS 3600).rules.length = 0 from rfl)
  have HSP := Lib.hid (fun wx vr vz vl h hv => Spans_any (zoS 3600) (bx [65]) vr vz vl wx h hv)
  rw [telE, telV, show bx [65] = ⟨#[65]⟩ from rfl] at HSP
  have HCT := Lib.hid (fun wx (hb : Below w.heap.size w wx) => civil_tells wx (hT.below hb))
  have HTM := Lib.hid (fun wx (hb : Below w.heap.size w wx) => And.intro (hT.below hb) (hV.mx.below hb))
  obtain ⟨O, hO⟩ : ∃ o, zoS 3600 = o := ⟨_, rfl⟩
  rw [hO] at HR HSP HZ HRL sb
  clear hV hT r1 r2 r3 hO
  go_enter Tryz.func7, Tryz.ntmps7
  go_wp2_with fail
  refine HR.out.mono ?_; rintro e w1 ⟨vr, vz, vl, rfl, hx, b1⟩
  obtain ⟨W1, hW1⟩ : ∃ W1, W1 = w1.alloc (.cells #[vr, vz, vl] 28) := ⟨_, rfl⟩
  have B1 : Hid (Below w.heap.size w W1) := by show Below _ _ _; rw [hW1]; exact b1.alloc b1.size _
  have X1 : Hid (BxO W1 w1.heap.size #[vr, vz, vl] 28) := by show BxO _ _ _ _; rw [hW1]; exact BxO.new _ _ _
  have S1 : Hid (SrcAt W1 vr vz vl O) := by show SrcAt _ _ _ _ _; rw [hW1]; exact srcAt_of (hx.mono ((Below.refl _ _).alloc (Nat.le_refl _) _)) sb
  have H1 := Lib.hid hW1
  obtain ⟨a0, c0, rfl, -⟩ := hx.1.shape
  obtain ⟨a1, c1, rfl, -⟩ := hx.2.1.shape
  obtain ⟨a2, c2, rfl, -⟩ := hx.2.2.shape
  clear hW1 hx b1 HR sb
  go_upto_region 2 with fail
  rw [← H1.out]
  clear H1
  have x0 : W1.cell? ⟨w1.heap.size, 0, none⟩ = some (.slice a0 O.rules.length c0) := X1.out.cell 0
  have x1 : W1.cell? ⟨w1.heap.size, 1, none⟩ = some (.slice a1 1 c1) := by
    have := X1.out.cell 1
    rw [HZ.out] at this
    exact this
  have x2 : W1.cell? ⟨w1.heap.size, 2, none⟩ = some (.slice a2 O.links.length c2) := X1.out.cell 2
  have xl := X1.out.lt
  rw [HZ.out] at S1
  go_wp2_with fail
  refine (HSP.out _ _ _ _ S1.out (HTM.out _ B1.out)).mono ?_; rintro e w2 ⟨v, rfl, ho, b2⟩
  have B2 : Hid (Below w.heap.size w w2) := B1.out.trans (b2.mono B1.out.size)
  have ho : w2.ownsRow W1.heap.size 39 4 v 1 [.int .i64 (-2208988800), .int .i64 3600, .bool false, .string (bx [88])] := ho
  obtain ⟨g, cap, rfl⟩ : ∃ g cap, v = .slice (some ⟨g, 0, none⟩) 1 cap := by
    rcases ho.2 with ⟨_, h0⟩ | ⟨g, cap, _, rfl, _⟩
    · exact absurd h0 (by decide)
    · exact ⟨g, cap, rfl⟩
  have hg := ho.lt g rfl
  have k0 : w2.cell? ⟨g, 1, none⟩ = some (.int .i64 3600) := ho.cellAt 1 (by decide)
  have y1 := (b2.cell (p := ⟨w1.heap.size, 1, none⟩) xl).trans x1
  have yl := Nat.lt_of_lt_of_le xl b2.size
  clear x0 x1 x2 xl ho b2 HSP HTM S1 X1
  go_wp2_with fail
  refine (HCT.out _ B2.out).mono ?_; rintro e w3 ⟨rfl, b3⟩
  have B3 : Hid (Below w.heap.size w w3) := B2.out.trans (b3.mono B2.out.size)
  have z1 := (b3.cell (p := ⟨w1.heap.size, 1, none⟩) yl).trans y1
  have z0 := (b3.cell (p := ⟨g, 1, none⟩) hg.2).trans k0
  clear y1 yl k0 b3 HCT
  go_wp2
  go_ret
  exact ⟨ret_bool (by simp), B3.out⟩
end Go.Proofs.YtbikdlcjbigafaaGreatDoor
