/-
  A zone of one era, read: hours as seconds (plain).
-/
import Derived.Test.YtcmlcmokjgkciaaGreatDoorJSoA
import Derived.Test.YtcmlcmokjgkciaaGreatDoorJRdE
namespace Go.Proofs.YtcmlcmokjgkciaaGreatDoor
set_option linter.unusedVariables false
set_option linter.unusedSimpArgs false
open Go.ChangeShapes Go.WideShapes Go.ChangeAt Go.RowKit Civ

/-- 'Zone A T - X'. -/
def zoT (T : Wd) : Wd := [90, 111, 110, 101, 32, 65, 32] ++ (T ++ [32, 45, 32, 88])
def zoS (K : Int) : Src := ⟨[], [⟨bx [65], [⟨K, ByteArray.empty, 0, bx [88], false, 0, ⟨0, 0, 0, 0, 0, 0⟩⟩]⟩], []⟩
theorem zo_read (T : Wd) (K : Int) (hT : wok T = true) (hO : offS (bx T) = (K, 0)) : srcX (bx (zoT T)) = 0 ∧ srcL (bx (zoT T)) = 0 ∧ srcV (bx (zoT T)) = zoS K := by
  have hw : ([zonWd, [65], T, [45], [88]] : List Wd).all wok = true := by
    simp only [List.all_cons, List.all_nil, hT, Bool.true_and, Bool.and_true]
    decide +kernel
  have hj : joinT [zonWd, [65], T, [45], [88]] = zoT T := rfl
  have hlen : (zoT T).length ≤ 40 := by
    have := ((wok_iff T).1 hT).2.1
    unfold zoT
    simp only [List.length_append, List.length_cons, List.length_nil]
    omega
  have hl : linesS (bx (zoT T)) = [zoT T] := by
    show splB 10 [] (zoT T) = [zoT T]
    have hn := join_nl _ hw
    rw [hj] at hn
    have h : ∀ (w cur : Wd), (10 : UInt8) ∉ w → splB 10 cur w = [cur ++ w] := by
      intro w
      induction w with
      | nil => intro cur _; simp [splB]
      | cons c w ih =>
        intro cur h
        show (if c = 10 then cur :: splB 10 [] w else splB 10 (cur ++ [c]) w) = _
        rw [if_neg (fun e => h (by simp [e])), ih _ (fun e => h (by simp [e]))]
        simp
    simpa using h _ [] hn
  have hb : ([zonWd, [65], T, [45], [88]] : List Wd).map bx = [zoneW, bx [65], bx T, dashS, bx [88]] := rfl
  have he : erE ([zoneW, bx [65], bx T, dashS, bx [88]].drop 2) = 0 := by
    show erE [bx T, dashS, bx [88]] = 0
    unfold erE
    have e1 : er1S [bx T, dashS, bx [88]] = 0 := if_pos rfl
    have e2 : fmtL (wAt [bx T, dashS, bx [88]] 2).data.toList = true := by show fmtL [88] = true; decide +kernel
    have e3 : wAt [bx T, dashS, bx [88]] 0 = bx T := rfl
    rw [e1, e2, e3, hO]
    rfl
  have hv : erV ([zoneW, bx [65], bx T, dashS, bx [88]].drop 2) = ⟨K, ByteArray.empty, 0, bx [88], false, 0, ⟨0, 0, 0, 0, 0, 0⟩⟩ := by
    show erV [bx T, dashS, bx [88]] = _
    have e1 : erRl [bx T, dashS, bx [88]] = ByteArray.empty := if_pos rfl
    have e2 : erSv [bx T, dashS, bx [88]] = 0 := if_pos rfl
    have e3 : wAt [bx T, dashS, bx [88]] 0 = bx T := rfl
    have e4 : erUn [bx T, dashS, bx [88]] = ⟨0, 0, 0, 0, 0, 0⟩ := if_pos rfl
    unfold erV
    rw [e1, e2, e3, e4, hO]
    rfl
  have hE : linE rd0 (zoT T) = 0 := by
    rw [← hj, linE_join hw, hb]
    have hn : nameS (bx [65]) = true := by decide +kernel
    have hr : ¬ wAt [zoneW, bx [65], bx T, dashS, bx [88]] 0 = ruleW := by show ¬ zoneW = ruleW; intro h; exact absurd (bx_inj h) (by decide)
    unfold lnE
    have hz0 : wAt [zoneW, bx [65], bx T, dashS, bx [88]] 0 = zoneW := rfl
    rw [if_neg (by simp), if_neg (by simp [rd0]), if_neg hr, if_pos hz0, if_neg (by show ¬ (_ ∨ nameS (bx [65]) = false); rw [hn]; simp)]
    exact he
  have hV : linV rd0 (zoT T) = ⟨zoS K, false⟩ := by
    rw [← hj, linV_join hw, hb]
    have hr : ¬ wAt [zoneW, bx [65], bx T, dashS, bx [88]] 0 = ruleW := by show ¬ zoneW = ruleW; intro h; exact absurd (bx_inj h) (by decide)
    unfold lnV
    have hz0 : wAt [zoneW, bx [65], bx T, dashS, bx [88]] 0 = zoneW := rfl
    rw [if_neg (by simp), if_neg (by simp [rd0]), if_neg hr, if_pos hz0, hv]
    rfl
  have hF : linsF rd0 0 (linesS (bx (zoT T))) = ((⟨zoS K, false⟩, 1), 0) := by
    rw [hl]
    show (if linE rd0 (zoT T) ≠ 0 then _ else linsF (linV rd0 (zoT T)) (0 + 1) []) = _
    rw [if_neg (by simp [hE]), hV]
    rfl
  have hz : ¬ 8000 < (bx (zoT T)).size := by rw [bx_size]; omega
  have hn2 : ¬ 200 < (linesS (bx (zoT T))).length := by rw [hl]; show ¬ 200 < 1; decide
  have hbig : ¬ (8000 < (bx (zoT T)).size ∨ 200 < (linesS (bx (zoT T))).length) := by rintro (h | h); exact hz h; exact hn2 h
  refine ⟨?_, ?_, ?_⟩
  · unfold srcX; rw [if_neg hbig, hF]; rfl
  · unfold srcL; rw [if_neg hbig, hF]; rfl
  · unfold srcV; rw [hF, if_neg (by rintro (h | h | h | h); exact hz h; exact hn2 h; exact h rfl; cases h)]
/-- hours, minutes, seconds. -/
def hmsT (h m s : Nat) : Wd := Lib.itoa (h : Int) ++ 58 :: (twoT (m : Int) ++ 58 :: twoT (s : Int))
theorem twoK : ((List.range 60).all fun m => twoB (bx (twoT (m : Int))) && (decide (twoV (bx (twoT (m : Int))) = (m : Int)) && ((twoT (m : Int)).all fun c => decide (48 ≤ c ∧ c ≤ 57)) && decide ((twoT (m : Int)).length = 2))) = true := by decide +kernel
theorem hrK : ((List.range 25).all fun h => decide (dcm (bl (bx (Lib.itoa (h : Int)))) 999 = ((h : Int), 0)) && (((Lib.itoa (h : Int)).all fun c => decide (48 ≤ c ∧ c ≤ 57)) && decide ((Lib.itoa (h : Int)).length ≤ 2) && decide (1 ≤ (Lib.itoa (h : Int)).length))) = true := by decide +kernel
theorem two_at {m : Nat} (h : m < 60) : twoB (bx (twoT (m : Int))) = true ∧ twoV (bx (twoT (m : Int))) = (m : Int) ∧ (∀ c ∈ twoT (m : Int), 48 ≤ c ∧ c ≤ 57) ∧ (twoT (m : Int)).length = 2 := by
  have := List.all_eq_true.1 twoK m (List.mem_range.2 h)
  simp only [Bool.and_eq_true, decide_eq_true_eq, List.all_eq_true] at this
  exact ⟨this.1, this.2.1.1, this.2.1.2, this.2.2⟩
theorem hr_at {h : Nat} (hh : h < 25) : dcm (bl (bx (Lib.itoa (h : Int)))) 999 = ((h : Int), 0) ∧ (∀ c ∈ Lib.itoa (h : Int), 48 ≤ c ∧ c ≤ 57) ∧ (Lib.itoa (h : Int)).length ≤ 2 ∧ 1 ≤ (Lib.itoa (h : Int)).length := by
  have := List.all_eq_true.1 hrK h (List.mem_range.2 hh)
  simp only [Bool.and_eq_true, decide_eq_true_eq, List.all_eq_true] at this
  exact ⟨this.1, this.2.1.1, this.2.1.2, this.2.2⟩
theorem no58 {w : Wd} (h : ∀ c ∈ w, 48 ≤ c ∧ c ≤ 57) : (58 : UInt8) ∉ w := fun e => absurd (h 58 e).2 (by decide)
theorem splB_last (c : UInt8) : ∀ (w cur : Wd), c ∉ w → splB c cur w = [cur ++ w] := by
  intro w
  induction w with
  | nil => intro cur _; simp [splB]
  | cons x w ih =>
    intro cur h
    show (if x = c then cur :: splB c [] w else splB c (cur ++ [x]) w) = _
    rw [if_neg (fun e => h (by simp [e])), ih _ (fun e => h (by simp [e]))]
    simp
theorem hms_hrs {h m s : Nat} (hh : h < 25) (hm : m < 60) (hs : s < 60) (hk : 3600 * h + 60 * m + s ≤ 86400) : hrsS (bx (hmsT h m s)) 86400 = (((3600 * h + 60 * m + s : Nat) : Int), 0) := by
  obtain ⟨a1, a2, a3, -⟩ := hr_at hh
  obtain ⟨b1, b2, b3, -⟩ := two_at hm
  obtain ⟨c1, c2, c3, -⟩ := two_at hs
  have e : colS (bx (hmsT h m s)) = [bx (Lib.itoa (h : Int)), bx (twoT (m : Int)), bx (twoT (s : Int))] := by
    unfold colS
    rw [data_bx]
    unfold hmsT
    rw [splB_line 58 _ _ _ (no58 a2), splB_line 58 _ _ _ (no58 b3), splB_last 58 _ _ (no58 c3)]
    rfl
  have hmT : minT [bx (twoT (m : Int)), bx (twoT (s : Int))] 60 (3600 * (h : Int)) = (((3600 * h + 60 * m + s : Nat) : Int), true) := by
    show (if twoB (bx (twoT (m : Int))) then (if twoB (bx (twoT (s : Int))) then _ else _) else _) = _
    rw [b1, c1, if_pos rfl, if_pos rfl]
    show (3600 * (h : Int) + 60 * twoV (bx (twoT (m : Int))) + 1 * twoV (bx (twoT (s : Int))), true) = _
    rw [b2, c2]
    congr 1
    omega
  have h3 : ¬ 3 < (colS (bx (hmsT h m s))).length := by rw [e]; show ¬ 3 < 3; decide
  rw [hrsS_d (N := ((3600 * h + 60 * m + s : Nat) : Int)) e h3 (by rw [a1]) (by rw [a1]; exact hmT), if_neg (by omega)]
theorem hms_wok {h m s : Nat} (hh : h < 25) (hm : m < 60) (hs : s < 60) (neg : Bool) : wok ((if neg then [45] else []) ++ hmsT h m s) = true := by
  obtain ⟨-, a2, a3, a4⟩ := hr_at hh
  obtain ⟨-, -, b3, b4⟩ := two_at hm
  obtain ⟨-, -, c3, c4⟩ := two_at hs
  have dig : ∀ c : UInt8, 48 ≤ c ∧ c ≤ 57 → c ≠ 32 ∧ c ≠ 9 ∧ c ≠ 35 ∧ c ≠ 10 := fun c h => ⟨fun e => absurd h.1 (by rw [e]; decide), fun e => absurd h.1 (by rw [e]; decide), fun e => absurd h.1 (by rw [e]; decide), fun e => absurd h.1 (by rw [e]; decide)⟩
  have hall : ∀ c ∈ hmsT h m s, c ≠ 32 ∧ c ≠ 9 ∧ c ≠ 35 ∧ c ≠ 10 := by
    intro c hc
    unfold hmsT at hc
    rcases List.mem_append.1 hc with hc | hc
    · exact dig c (a2 c hc)
    · rcases List.mem_cons.1 hc with rfl | hc
      · decide
      · rcases List.mem_append.1 hc with hc | hc
        · exact dig c (b3 c hc)
        · rcases List.mem_cons.1 hc with rfl | hc
          · decide
          · exact dig c (c3 c hc)
  have hlen : (hmsT h m s).length ≤ 8 ∧ 1 ≤ (hmsT h m s).length := by
    unfold hmsT
    simp only [List.length_append, List.length_cons]
    omega
  refine (wok_iff _).2 ⟨fun e => ?_, ?_, fun c hc => ?_⟩
  · have := congrArg List.length e
    rw [List.length_append] at this
    simp only [List.length_nil] at this
    omega
  · rw [List.length_append]
    cases neg <;> simp <;> omega
  · rcases List.mem_append.1 hc with hc | hc
    · cases neg with
      | false => cases hc
      | true => rw [List.mem_singleton.1 hc]; decide
    · exact hall c hc
theorem hms_off {h m s : Nat} (hh : h < 25) (hm : m < 60) (hs : s < 60) (hk : 3600 * h + 60 * m + s ≤ 86400) (neg : Bool) :
    offS (bx ((if neg then [45] else []) ++ hmsT h m s)) = (if neg then -((3600 * h + 60 * m + s : Nat) : Int) else ((3600 * h + 60 * m + s : Nat) : Int), 0) := by
  have hr := hms_hrs hh hm hs hk
  cases neg with
  | true =>
    show offS (bx (45 :: hmsT h m s)) = (-((3600 * h + 60 * m + s : Nat) : Int), 0)
    have e : dropB (bx (45 :: hmsT h m s)) 1 = bx (hmsT h m s) := rfl
    unfold offS
    rw [if_pos ⟨by rw [bx_size]; simp, rfl⟩, e, hr]
  | false =>
    show offS (bx (hmsT h m s)) = (((3600 * h + 60 * m + s : Nat) : Int), 0)
    obtain ⟨-, a2, -, a4⟩ := hr_at hh
    have hb : byI (bx (hmsT h m s)) 0 ≠ 45 := by
      obtain ⟨c, l, e⟩ : ∃ c l, Lib.itoa (h : Int) = c :: l := by
        cases hx : Lib.itoa (h : Int) with
        | nil => rw [hx] at a4; simp at a4
        | cons c l => exact ⟨c, l, rfl⟩
      have hc := a2 c (by rw [e]; simp)
      have e2 : byI (bx (hmsT h m s)) 0 = (c.toNat : Int) := by unfold hmsT; rw [e]; rfl
      rw [e2]
      intro h45
      have h48 : 48 ≤ c.toNat := hc.1
      omega
    unfold offS
    rw [if_neg (fun e => hb e.2), hr]
end Go.Proofs.YtcmlcmokjgkciaaGreatDoor
