/-
  The document's words of a line (the walk).
-/
import Derived.Maps.AppendAt
import Derived.Test.YtbciennhcdabeaaGreatDoorRdN
namespace Go.Proofs.YtbciennhcdabeaaGreatDoor
set_option linter.unusedVariables false
set_option linter.unusedSimpArgs false
open Go.ChangeShapes Go.WideShapes Go.ChangeAt Go.RowKit Civ

/-- words behind so many bytes. -/
def wdB (cur : ByteArray) (l : List UInt8) : List ByteArray := (wdsF cur.data.toList l).map bx
theorem wdB_nil (cur : ByteArray) : wdB cur [] = if cur = ByteArray.empty then [] else [cur] := by
  have e2 : wdsF cur.data.toList [] = if cur.data.toList = [] then [] else [cur.data.toList] := rfl
  have hi : cur.data.toList = [] ↔ cur = ByteArray.empty := by
    constructor
    · intro h; rw [← bx_data cur, h]; rfl
    · rintro rfl; rfl
  unfold wdB
  rw [e2]
  by_cases h : cur = ByteArray.empty
  · rw [if_pos h, if_pos (hi.2 h)]; rfl
  · rw [if_neg h, if_neg (fun e => h (hi.1 e))]; simp [bx_data]
theorem wdB_mark (cur : ByteArray) (l : List UInt8) : wdB cur (35 :: l) = if cur = ByteArray.empty then [] else [cur] := by
  rw [← wdB_nil]; rfl
theorem wdB_blank (cur : ByteArray) (c : UInt8) (l : List UInt8) (h : c = 32 ∨ c = 9) : wdB cur (c :: l) = (if cur = ByteArray.empty then [] else [cur]) ++ wdB ByteArray.empty l := by
  have hc : ¬ c = 35 := by rcases h with rfl | rfl <;> decide
  have e2 : wdsF cur.data.toList (c :: l) = if c = 35 then (if cur.data.toList = [] then [] else [cur.data.toList]) else if c = 32 ∨ c = 9 then (if cur.data.toList = [] then wdsF [] l else cur.data.toList :: wdsF [] l) else wdsF (cur.data.toList ++ [c]) l := rfl
  have hi : cur.data.toList = [] ↔ cur = ByteArray.empty := by
    constructor
    · intro h; rw [← bx_data cur, h]; rfl
    · rintro rfl; rfl
  unfold wdB
  rw [e2, if_neg hc, if_pos h]
  by_cases he : cur = ByteArray.empty
  · rw [if_pos he, if_pos (hi.2 he)]; rfl
  · rw [if_neg he, if_neg (fun e => he (hi.1 e))]; simp [bx_data]
theorem wdB_more (cur : ByteArray) (c : UInt8) (l : List UInt8) (h : ¬ (c = 32 ∨ c = 9)) (h2 : ¬ c = 35) (x : ByteArray) (hx : x.data.toList = [c]) : wdB cur (c :: l) = wdB (cur ++ x) l := by
  have e2 : wdsF cur.data.toList (c :: l) = if c = 35 then (if cur.data.toList = [] then [] else [cur.data.toList]) else if c = 32 ∨ c = 9 then (if cur.data.toList = [] then wdsF [] l else cur.data.toList :: wdsF [] l) else wdsF (cur.data.toList ++ [c]) l := rfl
  unfold wdB
  rw [e2, if_neg h2, if_neg h, ByteArray.data_append, Array.toList_append, hx]
theorem ext_one (s : ByteArray) (i : Nat) (h : i < s.size) : (s.extract i (i + 1)).data.toList = [s[i]] := by
  rw [ext_bx, data_bx, show i + 1 - i = 1 by omega]
  have hz : s.data.toList.length = s.size := by simp
  rw [List.drop_eq_getElem_cons (show i < s.data.toList.length by omega)]
  rfl
theorem drop_byte (s : ByteArray) (i : Nat) (h : i < s.size) : s.data.toList.drop i = s[i] :: s.data.toList.drop (i + 1) := by
  have hz : s.data.toList.length = s.size := by simp
  rw [List.drop_eq_getElem_cons (show i < s.data.toList.length by omega)]
  rfl
set_option maxRecDepth 100000 in
set_option maxHeartbeats 4000000 in
theorem wordsOf_any_s (s : ByteArray) (w : World) (hs : s.size ≤ 1000000) :
    Calls Tryz.prog 15 #[.string s] w fun e w' => ∃ v, e = .returned (.tuple #[v, .int .i64 (lngE (wdsS s.data.toList))]) ∧ (lngE (wdsS s.data.toList) = 0 → SlAt w' 1 RSt v (wdsS s.data.toList)) ∧ Below w.heap.size w w' := by
  obtain ⟨i0, hi, hz0, hz1, hz2⟩ := info_parts str_info
  have HW : Hid (wdB ByteArray.empty (s.data.toList.drop 0) = wdsS s.data.toList) := rfl
  have hwl := wdsS_len s.data.toList
  have hzl : s.data.toList.length = s.size := by simp
  generalize wdsS s.data.toList = ws at *
  have hsm := hs
  go_enter Tryz.func15, Tryz.ntmps15
  go_upto_block 0 with fail
  go_cut [4] (fun vo wx => Hid (wx.ownsRow w.heap.size 9 1 vo ws.length (ws.flatMap encWd)) ∧ Hid (Below w.heap.size w wx))
  case first =>
    go_wp2_with fail
    go_loopw [4, 5, 6] (fun vo vw vi wr => ∃ (i : Nat) (O : List ByteArray) (cur : ByteArray), i ≤ s.size + 1 ∧ vi = .int .i64 i ∧ vw = .string cur ∧ cur.size ≤ i ∧ Hid (i ≤ s.size → O ++ wdB cur (s.data.toList.drop i) = ws) ∧ Hid (i = s.size + 1 → O = ws) ∧ Hid (wr.ownsRow w.heap.size 9 1 vo O.length (O.flatMap encWd)) ∧ Hid (Below w.heap.size w wr)) (fun _ _ vi _ => (s.size + 1 - intOf vi).toNat)
    case atStart => exact ⟨0, [], ByteArray.empty, Nat.zero_le _, rfl, rfl, Nat.le_refl _, fun _ => HW.out, fun h => by omega, World.ownsRow_nil _ _ _ _, Below.refl _ _⟩
    case round =>
      obtain ⟨i, O, cur, hi1, rfl, rfl, hcs, HI, HE, OW, BW⟩ := hrel
      obtain ⟨ao, co, rfl⟩ := own_shape OW.out
      by_cases hle : i ≤ s.size
      · have hlei : (i : Int) ≤ (s.size : Int) := by omega
        have hOl : O.length ≤ 1000001 := by
          have h1 := congrArg List.length (HI.out hle)
          rw [List.length_append] at h1
          omega
        by_cases hlt : i < s.size
        · have hki : (i : Int) < (s.size : Int) := by omega
          have HD := Lib.hid (HI.out hle)
          rw [drop_byte s i hlt] at HD
          obtain ⟨c, hc⟩ : ∃ c : Int, ((s[i]).toNat : Int) = c := ⟨_, rfl⟩
          have hk : ∀ n : UInt8, s[i] = n ↔ c = (n.toNat : Int) := fun n => by
            rw [← hc]
            exact ⟨fun h => by rw [h], fun h => UInt8.toNat_inj.1 (by omega)⟩
          have k32 := hk 32
          have k9 := hk 9
          have k35 := hk 35
          have HXT : Hid ((s.extract i (i + 1)).data.toList = [s[i]]) := ext_one s i hlt
          have hxz : (s.extract i (i + 1)).size = 1 := by
            rw [ext_bx, bx_size, List.length_take, List.length_drop]
            omega
          have ca := fun w1 : World => run_string_add_sum (P := Tryz.prog) w1 cur (s.extract i (i + 1)) (by omega)
          clear hk
          by_cases h35 : c = 35
          · have HX : Hid (O ++ (if cur = ByteArray.empty then [] else [cur]) = ws) := by show _ = _; have h := HD.out; rw [(k35).2 h35, wdB_mark] at h; exact h
            clear k32 k9 k35 ca hxz
            subst h35
            by_cases hce : cur = ByteArray.empty
            · have hpe : (cur.toList == []) = true := beq_iff_eq.2 ((toList_nil_iff_emptyBytes _).2 hce)
              have HO : Hid (O = ws) := by show _ = _; have h := HX.out; rw [if_pos hce, List.append_nil] at h; exact h
              clear hce
              go_wp2_with fail
              go_meet
              have h := HO.out
              subst h
              exact ⟨OW, BW⟩
            · have hpe : (cur.toList == []) = false := by rw [beq_eq_false_iff_ne]; exact fun e => hce ((toList_nil_iff_emptyBytes _).1 e)
              have HO : Hid (O ++ [cur] = ws) := by show _ = _; have h := HX.out; rw [if_neg hce] at h; exact h
              clear hce
              go_wp2_with (at_builtin; refine wpList_append_own _ rfl (.tmp 45) (.tmp 47) 34 rfl w.heap.size 9 i0 (.string ⟨#[]⟩) 1 16 Tryz.underlying34 hi hz0 hz1 hz2 rfl (by decide) _ _ _ rfl (OW.out.alloc _) ⟨wr.heap.size, 0, none⟩ 1 1 (encWd cur) rfl rfl (cells_at _ _ _ _ _ rfl rfl) (by intro u hu; simp [encWd] at hu; subst hu; rfl) (by unfold maxLen; omega) (by omega) (by rw [size_alloc]; exact Nat.le_succ_of_le BW.out.size) ?_; intro v4 w4 hown hgrow _; have OW4 := Lib.hid (own_snocG hown); have BW4 := Lib.hid (append_keep OW.out ((Below.refl _ _).alloc BW.out.size _) BW.out.size hgrow); obtain ⟨a4, c4, rfl⟩ := own_shape hown; clear hown hgrow)
              go_meet
              exact ⟨by rw [← HO.out]; exact OW4, BW.out.trans BW4.out⟩
          · by_cases hb : c = 32 ∨ c = 9
            · have HX : Hid (O ++ ((if cur = ByteArray.empty then [] else [cur]) ++ wdB ByteArray.empty (s.data.toList.drop (i + 1))) = ws) := by
                show _ = _
                have h := HD.out
                rw [wdB_blank _ _ _ (hb.elim (fun h => .inl (k32.2 h)) (fun h => .inr (k9.2 h)))] at h
                exact h
              rcases hb with hb | hb
              · clear h35 k32 k9 k35 ca hxz
                subst hb
                by_cases hce : cur = ByteArray.empty
                · have hpe : (cur.toList == []) = true := beq_iff_eq.2 ((toList_nil_iff_emptyBytes _).2 hce)
                  have HO : Hid (O ++ wdB cur (s.data.toList.drop (i + 1)) = ws) := by show _ = _; have h := HX.out; rw [if_pos hce, List.nil_append] at h; rw [hce]; exact h
                  clear hce
                  go_wp2_with fail
                  go_roundw
                  case rel => exact ⟨i + 1, O, cur, by omega, by go_num, rfl, by omega, fun _ => HO.out, fun h => absurd h (by omega), OW, BW⟩
                  case measure => simp [intOf]; omega
                · have hpe : (cur.toList == []) = false := by rw [beq_eq_false_iff_ne]; exact fun e => hce ((toList_nil_iff_emptyBytes _).1 e)
                  have HO : Hid ((O ++ [cur]) ++ wdB ByteArray.empty (s.data.toList.drop (i + 1)) = ws) := by show _ = _; have h := HX.out; rw [if_neg hce, ← List.append_assoc] at h; exact h
                  clear hce
                  go_wp2_with (at_builtin; refine wpList_append_own _ rfl (.tmp 45) (.tmp 47) 34 rfl w.heap.size 9 i0 (.string ⟨#[]⟩) 1 16 Tryz.underlying34 hi hz0 hz1 hz2 rfl (by decide) _ _ _ rfl (OW.out.alloc _) ⟨wr.heap.size, 0, none⟩ 1 1 (encWd cur) rfl rfl (cells_at _ _ _ _ _ rfl rfl) (by intro u hu; simp [encWd] at hu; subst hu; rfl) (by unfold maxLen; omega) (by omega) (by rw [size_alloc]; exact Nat.le_succ_of_le BW.out.size) ?_; intro v4 w4 hown hgrow _; have OW4 := Lib.hid (own_snocG hown); have BW4 := Lib.hid (append_keep OW.out ((Below.refl _ _).alloc BW.out.size _) BW.out.size hgrow); obtain ⟨a4, c4, rfl⟩ := own_shape hown; clear hown hgrow)
                  go_roundw
                  case rel => exact ⟨i + 1, O ++ [cur], ByteArray.empty, by omega, by go_num, rfl, Nat.zero_le _, fun _ => HO.out, fun h => absurd h (by omega), OW4, BW.out.trans BW4.out⟩
                  case measure => simp [intOf]; omega
              · clear h35 k32 k9 k35 ca hxz
                subst hb
                by_cases hce : cur = ByteArray.empty
                · have hpe : (cur.toList == []) = true := beq_iff_eq.2 ((toList_nil_iff_emptyBytes _).2 hce)
                  have HO : Hid (O ++ wdB cur (s.data.toList.drop (i + 1)) = ws) := by show _ = _; have h := HX.out; rw [if_pos hce, List.nil_append] at h; rw [hce]; exact h
                  clear hce
                  go_wp2_with fail
                  go_roundw
                  case rel => exact ⟨i + 1, O, cur, by omega, by go_num, rfl, by omega, fun _ => HO.out, fun h => absurd h (by omega), OW, BW⟩
                  case measure => simp [intOf]; omega
                · have hpe : (cur.toList == []) = false := by rw [beq_eq_false_iff_ne]; exact fun e => hce ((toList_nil_iff_emptyBytes _).1 e)
                  have HO : Hid ((O ++ [cur]) ++ wdB ByteArray.empty (s.data.toList.drop (i + 1)) = ws) := by show _ = _; have h := HX.out; rw [if_neg hce, ← List.append_assoc] at h; exact h
                  clear hce
                  go_wp2_with (at_builtin; refine wpList_append_own _ rfl (.tmp 45) (.tmp 47) 34 rfl w.heap.size 9 i0 (.string ⟨#[]⟩) 1 16 Tryz.underlying34 hi hz0 hz1 hz2 rfl (by decide) _ _ _ rfl (OW.out.alloc _) ⟨wr.heap.size, 0, none⟩ 1 1 (encWd cur) rfl rfl (cells_at _ _ _ _ _ rfl rfl) (by intro u hu; simp [encWd] at hu; subst hu; rfl) (by unfold maxLen; omega) (by omega) (by rw [size_alloc]; exact Nat.le_succ_of_le BW.out.size) ?_; intro v4 w4 hown hgrow _; have OW4 := Lib.hid (own_snocG hown); have BW4 := Lib.hid (append_keep OW.out ((Below.refl _ _).alloc BW.out.size _) BW.out.size hgrow); obtain ⟨a4, c4, rfl⟩ := own_shape hown; clear hown hgrow)
                  go_roundw
                  case rel => exact ⟨i + 1, O ++ [cur], ByteArray.empty, by omega, by go_num, rfl, Nat.zero_le _, fun _ => HO.out, fun h => absurd h (by omega), OW4, BW.out.trans BW4.out⟩
                  case measure => simp [intOf]; omega
            · have e1 : (c == 32) = false := beq_eq_false_iff_ne.2 fun e => hb (.inl e)
              have e2 : (c == 9) = false := beq_eq_false_iff_ne.2 fun e => hb (.inr e)
              have e3 : (c == 35) = false := beq_eq_false_iff_ne.2 h35
              have HX : Hid (O ++ wdB (cur ++ s.extract i (i + 1)) (s.data.toList.drop (i + 1)) = ws) := by
                show _ = _
                have h := HD.out
                rw [wdB_more cur _ _ (fun e => hb (e.elim (fun h => .inl (k32.1 h)) (fun h => .inr (k9.1 h)))) (fun e => h35 (k35.1 e)) _ HXT.out] at h
                exact h
              have hcz : (cur ++ s.extract i (i + 1)).size ≤ i + 1 := by rw [ByteArray.size_append, hxz]; omega
              have HCZ := Lib.hid hcz
              have f1 : (c != 32) = true := by rw [bne_iff_ne]; exact fun e => hb (.inl e)
              have f2 : (c != 9) = true := by rw [bne_iff_ne]; exact fun e => hb (.inr e)
              have f3 : (c != 35) = true := by rw [bne_iff_ne]; exact h35
              clear h35 k32 k9 k35 hxz hb hcz
              have hi1 : (i : Int) + 1 ≤ (s.size : Int) := by omega
              go_wp2_with fail
              go_roundw
              case rel => exact ⟨i + 1, O, cur ++ s.extract i (i + 1), by omega, by go_num, rfl, HCZ.out, fun _ => HX.out, fun h => absurd h (by omega), OW, BW⟩
              case measure => simp [intOf]; omega
        · obtain rfl : i = s.size := by omega
          have hki : ¬ (s.size : Int) < (s.size : Int) := by omega
          have HX : Hid (O ++ (if cur = ByteArray.empty then [] else [cur]) = ws) := by
            show _ = _
            have h := HI.out hle
            rw [List.drop_eq_nil_of_le (by omega), wdB_nil] at h
            exact h
          by_cases hce : cur = ByteArray.empty
          · have hpe : (cur.toList == []) = true := beq_iff_eq.2 ((toList_nil_iff_emptyBytes _).2 hce)
            have HO : Hid (O = ws) := by show _ = _; have h := HX.out; rw [if_pos hce, List.append_nil] at h; exact h
            clear hce
            go_wp2_with fail
            go_roundw
            case rel => exact ⟨s.size + 1, O, cur, Nat.le_refl _, by go_num, rfl, by omega, fun h => by omega, fun _ => HO.out, OW, BW⟩
            case measure => simp [intOf]
          · have hpe : (cur.toList == []) = false := by rw [beq_eq_false_iff_ne]; exact fun e => hce ((toList_nil_iff_emptyBytes _).1 e)
            have HO : Hid (O ++ [cur] = ws) := by show _ = _; have h := HX.out; rw [if_neg hce] at h; exact h
            clear hce
            go_wp2_with (at_builtin; refine wpList_append_own _ rfl (.tmp 45) (.tmp 47) 34 rfl w.heap.size 9 i0 (.string ⟨#[]⟩) 1 16 Tryz.underlying34 hi hz0 hz1 hz2 rfl (by decide) _ _ _ rfl (OW.out.alloc _) ⟨wr.heap.size, 0, none⟩ 1 1 (encWd cur) rfl rfl (cells_at _ _ _ _ _ rfl rfl) (by intro u hu; simp [encWd] at hu; subst hu; rfl) (by unfold maxLen; omega) (by omega) (by rw [size_alloc]; exact Nat.le_succ_of_le BW.out.size) ?_; intro v4 w4 hown hgrow _; have OW4 := Lib.hid (own_snocG hown); have BW4 := Lib.hid (append_keep OW.out ((Below.refl _ _).alloc BW.out.size _) BW.out.size hgrow); obtain ⟨a4, c4, rfl⟩ := own_shape hown; clear hown hgrow)
            go_roundw
            case rel => exact ⟨s.size + 1, O ++ [cur], ByteArray.empty, Nat.le_refl _, by go_num, rfl, Nat.zero_le _, fun h => by omega, fun _ => HO.out, OW4, BW.out.trans BW4.out⟩
            case measure => simp [intOf]
      · obtain rfl : i = s.size + 1 := by omega
        have hlei : ¬ (((s.size + 1 : Nat) : Int)) ≤ (s.size : Int) := by omega
        have HOW := HE.out rfl
        subst HOW
        go_wp2_with fail
        go_meet
        exact ⟨OW, BW⟩
  case rest =>
    obtain ⟨OW, BW⟩ := hcut
    obtain ⟨ao, co, rfl⟩ := own_shape OW.out
    have HR : Hid (SlAt wc 1 RSt (.slice ao ws.length co) ws) := slAt_of_own (by decide) (fun _ => rfl) (fun _ _ => rfl) OW.out
    have hwl2 : ws.length ≤ 1000001 := by omega
    clear OW HW hwl hzl
    go_wp2_with fail
    go_loopw [7] (fun vi wr => ∃ k : Nat, k ≤ ws.length ∧ vi = .int .i64 k ∧ Hid (∀ i (h : i < ws.length), i < k → ¬ 20 < ws[i].size) ∧ wc = wr) (fun vi _ => (ws.length - intOf vi).toNat)
    case atStart => exact ⟨0, Nat.zero_le _, rfl, fun i h h0 => absurd h0 (Nat.not_lt_zero _), rfl⟩
    case round =>
      obtain ⟨k, hk, rfl, HK, rfl⟩ := hrel
      by_cases hlt : k < ws.length
      · have hki : (k : Int) < (ws.length : Int) := by omega
        obtain ⟨b', o', rfl, -, c0⟩ := entS HR.out k hlt
        by_cases hl : 20 < ws[k].size
        · have HL : Hid (lngE ws = 1) := by
            show _ = _
            unfold lngE longW
            rw [if_pos (List.any_eq_true.2 ⟨ws[k], List.getElem_mem hlt, decide_eq_true hl⟩)]
          have hld : (20 : Int) < (ws[k].size : Int) := by omega
          clear hl
          generalize ws[k] = x at *
          go_wp2_with fail
          go_ret2
          exact ⟨_, by rw [HL.out]; rfl, fun h => absurd (HL.out.symm.trans h) (by decide), BW.out⟩
        · have hld : ¬ (20 : Int) < (ws[k].size : Int) := by omega
          have HK2 : Hid (∀ i (h : i < ws.length), i < k + 1 → ¬ 20 < ws[i].size) := by
            show ∀ i (h : i < ws.length), i < k + 1 → ¬ 20 < ws[i].size
            intro i h h1
            by_cases h2 : i = k
            · subst h2; exact hl
            · exact HK.out i h (by omega)
          clear hl
          generalize ws[k] = x at *
          go_wp2_with fail
          go_roundw
          case rel => exact ⟨k + 1, by omega, by go_num, HK2, trivial⟩
          case measure => simp [intOf]; omega
      · obtain rfl : k = ws.length := by omega
        have hnl : ¬ (ws.length : Int) < (ws.length : Int) := by omega
        have HL : Hid (lngE ws = 0) := by
          show _ = _
          unfold lngE longW
          rw [if_neg]
          intro h
          obtain ⟨x, hx, h2⟩ := List.any_eq_true.1 h
          obtain ⟨i, hi, rfl⟩ := List.mem_iff_getElem.1 hx
          exact HK.out i hi hi (of_decide_eq_true h2)
        go_wp2_with fail
        go_ret2
        exact ⟨_, by rw [HL.out]; rfl, fun _ => HR.out, BW.out⟩
end Go.Proofs.YtbciennhcdabeaaGreatDoor
