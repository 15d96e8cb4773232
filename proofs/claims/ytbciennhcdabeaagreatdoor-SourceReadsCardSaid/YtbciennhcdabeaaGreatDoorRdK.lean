/-
  The document's readings: years, days' numbers, months, weekdays, offsets, times (the walks).
-/
import Derived.Test.YtbciennhcdabeaaGreatDoorRdF
import Derived.Test.YtbciennhcdabeaaGreatDoorPrsA
namespace Go.Proofs.YtbciennhcdabeaaGreatDoor
set_option linter.unusedVariables false
set_option linter.unusedSimpArgs false
open Go.ChangeShapes Go.WideShapes Go.ChangeAt Go.RowKit Civ

set_option maxRecDepth 100000 in
theorem yearOf_any (s : ByteArray) (w : World) (hs : s.size ≤ maxLen) :
    Calls Tryz.prog 43 #[.string s] w fun e w' => e = .returned (.tuple #[.int .i64 (yrS s).1, .int .i64 (yrS s).2]) ∧ w = w' := by
  have HN := Lib.hid (decimal_any s 9999 w hs)
  clear hs
  have HY : Hid (yrS s = ((dcm (bl s) 9999).1, if (dcm (bl s) 9999).2 = 0 ∧ ¬ (1900 ≤ (dcm (bl s) 9999).1 ∧ (dcm (bl s) 9999).1 ≤ 2099) then 2 else (dcm (bl s) 9999).2)) := rfl
  generalize dcm (bl s) 9999 = D at *
  obtain ⟨v, E⟩ := D
  dsimp only at HN HY
  by_cases hE : E = 0
  · subst hE
    obtain ⟨b, hb⟩ : ∃ b : Bool, decide (1900 ≤ v ∧ v ≤ 2099) = b := ⟨_, rfl⟩
    have HIN := Lib.hid (fun w => in_lit v 1900 2099 b w hb)
    have HY2 : Hid (yrS s = (v, if b = true then 0 else 2)) := by
      show _ = _
      rw [HY.out, ← hb]
      by_cases h : 1900 ≤ v ∧ v ≤ 2099
      · rw [if_neg (fun e => e.2 h), decide_eq_true h]; rfl
      · rw [if_pos ⟨rfl, h⟩, decide_eq_false h]; rfl
    clear hb HY
    go_enter Tryz.func43, Tryz.ntmps43
    go_wp2_with fail
    refine HN.out.mono ?_; rintro e w1 ⟨rfl, rfl⟩
    go_wp2_with fail
    refine (HIN.out _).mono ?_; rintro e w1 ⟨rfl, rfl⟩
    cases b with
    | true =>
      go_wp2
      go_ret2
      exact ⟨by rw [HY2.out]; rfl, rfl⟩
    | false =>
      go_wp2
      go_ret2
      exact ⟨by rw [HY2.out]; rfl, rfl⟩
  · have HY2 : Hid (yrS s = (v, E)) := by show _ = _; rw [HY.out, if_neg (fun h => hE h.1)]
    have hEb : (E == 0) = false := beq_eq_false_iff_ne.2 hE
    clear HY hE
    go_enter Tryz.func43, Tryz.ntmps43
    go_wp2_with fail
    refine HN.out.mono ?_; rintro e w1 ⟨rfl, rfl⟩
    go_wp2
    go_ret2
    exact ⟨by rw [HY2.out]; rfl, rfl⟩
set_option maxRecDepth 100000 in
theorem dayNumberOf_any (s : ByteArray) (w : World) (hs : s.size ≤ maxLen) :
    Calls Tryz.prog 79 #[.string s] w fun e w' => e = .returned (.tuple #[.int .i64 (dnS s).1, .int .i64 (dnS s).2]) ∧ w = w' := by
  have HN := Lib.hid (decimal_any s 31 w hs)
  clear hs
  have HY : Hid (dnS s = ((dcm (bl s) 31).1, if (dcm (bl s) 31).2 = 0 ∧ (dcm (bl s) 31).1 = 0 then 2 else (dcm (bl s) 31).2)) := rfl
  generalize dcm (bl s) 31 = D at *
  obtain ⟨v, E⟩ := D
  dsimp only at HN HY
  by_cases hE : E = 0
  · subst hE
    obtain ⟨b, hb⟩ : ∃ b : Bool, (v == 0) = b := ⟨_, rfl⟩
    have HY2 : Hid (dnS s = (v, if b = true then 2 else 0)) := by
      show _ = _
      rw [HY.out, ← hb]
      by_cases h : v = 0
      · rw [if_pos ⟨rfl, h⟩, h]; rfl
      · rw [if_neg (fun e => h e.2), beq_eq_false_iff_ne.2 h]; rfl
    clear HY
    go_enter Tryz.func79, Tryz.ntmps79
    go_wp2_with fail
    refine HN.out.mono ?_; rintro e w1 ⟨rfl, rfl⟩
    cases b with
    | true =>
      go_wp2
      go_ret2
      exact ⟨by rw [HY2.out]; rfl, rfl⟩
    | false =>
      go_wp2
      go_ret2
      exact ⟨by rw [HY2.out]; rfl, rfl⟩
  · have HY2 : Hid (dnS s = (v, E)) := by show _ = _; rw [HY.out, if_neg (fun h => hE h.1)]
    have hEb : (E == 0) = false := beq_eq_false_iff_ne.2 hE
    clear HY hE
    go_enter Tryz.func79, Tryz.ntmps79
    go_wp2_with fail
    refine HN.out.mono ?_; rintro e w1 ⟨rfl, rfl⟩
    go_wp2
    go_ret2
    exact ⟨by rw [HY2.out]; rfl, rfl⟩
theorem fidx_stop {α : Type} (p : α → Bool) : ∀ (l : List α) (k : Nat) (h : k < l.length), p l[k] = true → (∀ i (hi : i < l.length), i < k → p l[i] = false) → fidx p l = (k : Int)
  | [], k, h, _, _ => by simp at h
  | x :: l, 0, h, hp, _ => by
    show (if p x = true then 0 else if fidx p l < 0 then -1 else fidx p l + 1) = _
    rw [if_pos (by simpa using hp)]
    rfl
  | x :: l, k + 1, h, hp, hn => by
    have h0 : p x = false := hn 0 (by simp) (by omega)
    have ih := fidx_stop p l k (by simpa using h) (by simpa using hp) (fun i hi hik => by have := hn (i + 1) (by simpa using hi) (by omega); simpa using this)
    show (if p x = true then 0 else if fidx p l < 0 then -1 else fidx p l + 1) = _
    rw [if_neg (by rw [h0]; decide), ih, if_neg (by omega)]
    omega
theorem fidx_no {α : Type} (p : α → Bool) : ∀ (l : List α), (∀ i (hi : i < l.length), p l[i] = false) → fidx p l = -1
  | [], _ => rfl
  | x :: l, hn => by
    have h0 : p x = false := hn 0 (by simp)
    have ih := fidx_no p l (fun i hi => by have := hn (i + 1) (by simpa using hi); simpa using this)
    show (if p x = true then 0 else if fidx p l < 0 then -1 else fidx p l + 1) = _
    rw [if_neg (by rw [h0]; decide), ih]
    rfl
theorem streqK (a b : ByteArray) : (a.toList == b.toList) = decide (a = b) := by
  rw [Bool.eq_iff_iff, beq_iff_eq, decide_eq_true_iff]
  constructor
  · intro h
    rw [ByteArray.toList_eq, ByteArray.toList_eq] at h
    exact Go.WideShapes.bytes_inj h
  · rintro rfl; rfl
set_option maxRecDepth 100000 in
theorem placeIn_any (l : List ByteArray) (s : ByteArray) (b c : Nat) (w : World) (hl : l.length ≤ 100) (h : ∀ k (hk : k < l.length), w.cell? ⟨b, k, none⟩ = some (.string l[k])) :
    Calls Tryz.prog 77 #[.slice (some ⟨b, 0, none⟩) l.length c, .string s] w fun e w' => e = .returned (.int .i64 (plcS l s)) ∧ w = w' := by
  have H := Lib.hid h
  clear h
  go_enter Tryz.func77, Tryz.ntmps77
  go_wp2
  go_loopw [5] (fun vi wr => ∃ k : Nat, k ≤ l.length ∧ vi = .int .i64 k ∧ Hid (∀ i (hi : i < l.length), i < k → decide (l[i] = s) = false) ∧ w = wr) (fun vi _ => (l.length - intOf vi).toNat)
  case atStart => exact ⟨0, Nat.zero_le _, rfl, fun i hi h => absurd h (Nat.not_lt_zero _), rfl⟩
  case round =>
    obtain ⟨k, hk, rfl, HK, rfl⟩ := hrel
    by_cases hlt : k < l.length
    · have hki : (k : Int) < (l.length : Int) := by omega
      have c0 := H.out k hlt
      have g := streqK l[k] s
      by_cases he : l[k] = s
      · have HP : Hid (plcS l s = (k : Int)) := fidx_stop _ l k hlt (decide_eq_true he) HK.out
        rw [decide_eq_true he] at g
        clear he
        generalize l[k] = x at *
        go_wp2
        go_ret
        exact ⟨by rw [HP.out]; rfl, rfl⟩
      · have HK2 : Hid (∀ i (hi : i < l.length), i < k + 1 → decide (l[i] = s) = false) := by
          show ∀ i (hi : i < l.length), i < k + 1 → decide (l[i] = s) = false
          intro i hi h1
          by_cases h2 : i = k
          · subst h2; exact decide_eq_false he
          · exact HK.out i hi (by omega)
        rw [decide_eq_false he] at g
        clear he
        generalize l[k] = x at *
        go_wp2
        go_roundw
        case rel => exact ⟨k + 1, by omega, by go_num, HK2, trivial⟩
        case measure => simp [intOf]; omega
    · obtain rfl : k = l.length := by omega
      have hnl : ¬ (l.length : Int) < (l.length : Int) := by omega
      have HP : Hid (plcS l s = -1) := fidx_no _ l (fun i hi => HK.out i hi hi)
      go_wp2
      go_ret
      exact ⟨by rw [HP.out]; rfl, rfl⟩
end Go.Proofs.YtbciennhcdabeaaGreatDoor
