/-
  A source of raw things: what is read of it.
-/
import Derived.Test.YtbikdlcjbigafaaGreatDoorJSoB
namespace Go.Proofs.YtbikdlcjbigafaaGreatDoor
set_option linter.unusedVariables false
set_option linter.unusedSimpArgs false
open Go.ChangeShapes Go.WideShapes Go.ChangeAt Go.RowKit Civ

def rulO (ws : List Wd) : Rul := rulV (ws.map bx)
def erO (ws : List Wd) : Ero := erV (ws.map bx)
def threeWd : Wd := [84, 104, 114, 101, 101]
def fourWd : Wd := [70, 111, 117, 114]
/-- what is read. -/
def srcO (l : List Rz) : Src :=
  ⟨((l.take 7).map rulWs ++ fixWs).map rulO, [⟨bx oneWd, (ersOf l 0).map erO⟩, ⟨bx twoWd, (ersOf l 1).map erO⟩], [⟨bx oneWd, bx threeWd⟩, ⟨bx threeWd, bx fourWd⟩]⟩
/-- a rule's line that may be. -/
def RlWd (ws : List Wd) : Prop := ws.all wok = true ∧ rulS (ws.map bx) = 0 ∧ ∃ l, ws = rulWd :: l
theorem reads_rules : ∀ (L : List (List Wd)) (rs : List Rul) (zs : List Zon) (ls : List Lnk), (∀ ws ∈ L, RlWd ws) → Reads ⟨⟨rs, zs, ls⟩, false⟩ (L.map joinT) ⟨⟨rs ++ L.map rulO, zs, ls⟩, false⟩
  | [], rs, zs, ls, _ => by show RdS.mk _ _ = RdS.mk _ _; rw [List.map_nil, List.append_nil]
  | ws :: L, rs, zs, ls, h => by
    obtain ⟨h1, h2, l, h3⟩ := h ws (by simp)
    have h0 : wAt (ws.map bx) 0 = ruleW := by rw [h3]; rfl
    have hl : ¬ (ws.map bx).length = 0 := by rw [h3]; simp
    refine ⟨?_, ?_⟩
    · rw [linE_join h1]
      unfold lnE
      rw [if_neg hl, if_neg (by simp), if_pos h0, h2]
    · rw [linV_join h1]
      have e : lnV ⟨⟨rs, zs, ls⟩, false⟩ (ws.map bx) = ⟨⟨rs ++ [rulO ws], zs, ls⟩, false⟩ := by
        unfold lnV
        rw [if_neg hl, if_neg (by simp), if_pos h0]
        rfl
      rw [e]
      have := reads_rules L (rs ++ [rulO ws]) zs ls (fun x hx => h x (by simp [hx]))
      rw [List.append_assoc] at this
      exact this
/-- lines of eras that end; the last one's does not. -/
def ErOk (ws : List Wd) (b : Bool) : Prop := ws.all wok = true ∧ erE (ws.map bx) = 0 ∧ (erO ws).en = b ∧ ws ≠ []
theorem addE_at (pre : List Zon) (z : Zon) (x : Ero) : addE (pre ++ [z]) x = pre ++ [⟨z.nm, z.eras ++ [x]⟩] := by
  unfold addE
  rw [List.getLast?_append]
  simp
theorem lastN_at (pre : List Zon) (z : Zon) : lastN (pre ++ [z]) = z.eras.length := by
  unfold lastN
  rw [List.getLast?_append]
  simp
theorem reads_more {rs : List Rul} {ls : List Lnk} {pre : List Zon} {nm : ByteArray} {lst : List Wd} (hlst : ErOk lst false) : ∀ (E : List (List Wd)) (es : List Ero), (∀ ws ∈ E, ErOk ws true) → es.length + E.length < 20 →
    Reads ⟨⟨rs, pre ++ [⟨nm, es⟩], ls⟩, true⟩ ((E ++ [lst]).map joinT) ⟨⟨rs, pre ++ [⟨nm, es ++ (E ++ [lst]).map erO⟩], ls⟩, false⟩
  | [], es, _, hl => by
    obtain ⟨h1, h2, h3, h4⟩ := hlst
    have hl0 : ¬ (lst.map bx).length = 0 := by rw [List.length_map]; exact fun e => h4 (List.length_eq_zero_iff.1 e)
    refine ⟨?_, ?_⟩
    · rw [linE_join h1]
      unfold lnE
      rw [if_neg hl0, if_pos rfl, if_neg (by rw [h2]; simp), lastN_at, if_neg (by simp at hl; show ¬ 20 ≤ es.length; omega)]
    · rw [linV_join h1]
      have e : lnV ⟨⟨rs, pre ++ [⟨nm, es⟩], ls⟩, true⟩ (lst.map bx) = ⟨⟨rs, pre ++ [⟨nm, es ++ [erO lst]⟩], ls⟩, false⟩ := by
        unfold lnV
        rw [if_neg hl0, if_pos rfl, addE_at]
        exact congrArg (RdS.mk _) h3
      rw [e]
      rfl
  | ws :: E, es, h, hl => by
    obtain ⟨h1, h2, h3, h4⟩ := h ws (by simp)
    have hl0 : ¬ (ws.map bx).length = 0 := by rw [List.length_map]; exact fun e => h4 (List.length_eq_zero_iff.1 e)
    refine ⟨?_, ?_⟩
    · rw [linE_join h1]
      unfold lnE
      rw [if_neg hl0, if_pos rfl, if_neg (by rw [h2]; simp), lastN_at, if_neg (by simp at hl; show ¬ 20 ≤ es.length; omega)]
    · rw [linV_join h1]
      have e : lnV ⟨⟨rs, pre ++ [⟨nm, es⟩], ls⟩, true⟩ (ws.map bx) = ⟨⟨rs, pre ++ [⟨nm, es ++ [erO ws]⟩], ls⟩, true⟩ := by
        unfold lnV
        rw [if_neg hl0, if_pos rfl, addE_at]
        exact congrArg (RdS.mk _) h3
      rw [e]
      have := reads_more (rs := rs) (ls := ls) (pre := pre) (nm := nm) hlst E (es ++ [erO ws]) (fun x hx => h x (by simp [hx])) (by simp at hl ⊢; omega)
      rw [List.append_assoc] at this
      exact this
theorem zone_first {rs : List Rul} {ls : List Lnk} {pre : List Zon} {nm : Wd} {ws : List Wd} {b : Bool} (h : ErOk ws b) (hn : nameS (bx nm) = true) (hw : wok nm = true) :
    linE ⟨⟨rs, pre, ls⟩, false⟩ (joinT (zonWd :: nm :: ws)) = 0 ∧ linV ⟨⟨rs, pre, ls⟩, false⟩ (joinT (zonWd :: nm :: ws)) = ⟨⟨rs, pre ++ [⟨bx nm, [erO ws]⟩], ls⟩, b⟩ := by
  obtain ⟨h1, h2, h3, h4⟩ := h
  have hall : (zonWd :: nm :: ws).all wok = true := by rw [List.all_cons, List.all_cons, hw, h1]; rfl
  have hl0 : ¬ ((zonWd :: nm :: ws).map bx).length = 0 := by simp
  have hr : ¬ wAt ((zonWd :: nm :: ws).map bx) 0 = ruleW := by show ¬ zoneW = ruleW; intro e; have := bx_inj e; cases this
  refine ⟨?_, ?_⟩
  · rw [linE_join hall]
    unfold lnE
    rw [if_neg hl0, if_neg (by simp), if_neg hr, if_pos (by rfl), if_neg (by rintro (h | h); (· simp at h; omega); (· rw [show wAt ((zonWd :: nm :: ws).map bx) 1 = bx nm from rfl, hn] at h; cases h))]
    exact h2
  · rw [linV_join hall]
    unfold lnV
    rw [if_neg hl0, if_neg (by simp), if_neg hr, if_pos (by rfl)]
    exact congrArg (RdS.mk _) h3
theorem reads_zone {rs : List Rul} {ls : List Lnk} {pre : List Zon} {nm : Wd} {lst : List Wd} (hlst : ErOk lst false) (hn : nameS (bx nm) = true) (hw : wok nm = true) (E : List (List Wd)) (hE : ∀ ws ∈ E, ErOk ws true) (hl : E.length < 18) :
    Reads ⟨⟨rs, pre, ls⟩, false⟩ ((headWs nm (E ++ [lst])).map joinT) ⟨⟨rs, pre ++ [⟨bx nm, (E ++ [lst]).map erO⟩], ls⟩, false⟩ := by
  cases E with
  | nil =>
    obtain ⟨k1, k2⟩ := zone_first (rs := rs) (ls := ls) (pre := pre) (nm := nm) hlst hn hw
    refine ⟨k1, ?_⟩
    rw [k2]
    rfl
  | cons ws E =>
    obtain ⟨k1, k2⟩ := zone_first (rs := rs) (ls := ls) (pre := pre) (nm := nm) (hE ws (by simp)) hn hw
    refine ⟨k1, ?_⟩
    rw [k2]
    exact reads_more hlst E [erO ws] (fun x hx => hE x (by simp [hx])) (by simp at hl ⊢; omega)
theorem ersWs_ok : ∀ (l : List Rz) (y : Int), 1900 ≤ y → y + 30 * (l.length : Int) ≤ 2080 → ∀ ws ∈ ersWs l y, ErOk ws true
  | [], y, _, _, ws, h => by simp [ersWs] at h
  | x :: l, y, h1, h2, ws, h => by
    rw [List.length_cons] at h2
    rcases List.mem_cons.1 h with rfl | h
    · have := era_more x y (by omega)
      exact ⟨this.1, this.2.1, this.2.2, by simp [eraWs]⟩
    · exact ersWs_ok l (y + 30) (by omega) (by omega) ws h
theorem ersWs_len : ∀ (l : List Rz) (y : Int), (ersWs l y).length = l.length
  | [], _ => rfl
  | x :: l, y => by show (ersWs l _).length + 1 = _; rw [ersWs_len l, List.length_cons]
theorem ersOf_all (l : List Rz) (z : Nat) : (∀ ws ∈ ersWs ((l.drop (7 + 4 * z)).take 4) 1910, ErOk ws true) ∧ (ersWs ((l.drop (7 + 4 * z)).take 4) 1910).length ≤ 4 ∧ ErOk (eraWs ⟨IntKind.i64.wrap ((l.length : Int) + z), 5 * z, 0, 0⟩) false := by
  have hl : ((l.drop (7 + 4 * z)).take 4).length ≤ 4 := by rw [List.length_take]; omega
  refine ⟨ersWs_ok _ _ (by decide) (by omega), by rw [ersWs_len]; exact hl, ?_⟩
  have := era_last ⟨IntKind.i64.wrap ((l.length : Int) + z), 5 * z, 0, 0⟩
  exact ⟨this.1, this.2.1, this.2.2, by simp [eraWs]⟩
theorem link_ok {rs : List Rul} {ls : List Lnk} {zs : List Zon} {a b : Wd} (ha : wok a = true) (hb : wok b = true) (na : nameS (bx a) = true) (nb : nameS (bx b) = true) :
    linE ⟨⟨rs, zs, ls⟩, false⟩ (joinT [lnkWd, a, b]) = 0 ∧ linV ⟨⟨rs, zs, ls⟩, false⟩ (joinT [lnkWd, a, b]) = ⟨⟨rs, zs, ls ++ [⟨bx a, bx b⟩]⟩, false⟩ := by
  have hall : [lnkWd, a, b].all wok = true := by rw [List.all_cons, List.all_cons, List.all_cons, ha, hb]; rfl
  have hr : ¬ wAt ([lnkWd, a, b].map bx) 0 = ruleW := by show ¬ linkW = ruleW; intro e; have := bx_inj e; cases this
  have hz : ¬ wAt ([lnkWd, a, b].map bx) 0 = zoneW := by show ¬ linkW = zoneW; intro e; have := bx_inj e; cases this
  refine ⟨?_, ?_⟩
  · rw [linE_join hall]
    unfold lnE
    rw [if_neg (by simp), if_neg (by simp), if_neg hr, if_neg hz, if_pos (by rfl), if_neg]
    rintro (h | h | h)
    · exact h rfl
    · rw [show wAt ([lnkWd, a, b].map bx) 1 = bx a from rfl, na] at h; cases h
    · rw [show wAt ([lnkWd, a, b].map bx) 2 = bx b from rfl, nb] at h; cases h
  · rw [linV_join hall]
    unfold lnV
    rw [if_neg (by simp), if_neg (by simp), if_neg hr, if_neg hz]
    rfl
theorem fix_each : ∀ ws ∈ fixWs, RlWd ws := by
  intro ws h
  have := List.all_eq_true.1 fix_ok ws h
  rw [Bool.and_eq_true, decide_eq_true_eq] at this
  refine ⟨this.1, this.2, ?_⟩
  simp only [fixWs, List.mem_cons, List.not_mem_nil, or_false] at h
  rcases h with rfl | rfl | rfl | rfl <;> exact ⟨_, rfl⟩
theorem rules_each (l : List Rz) : ∀ ws ∈ (l.take 7).map rulWs ++ fixWs, RlWd ws := by
  intro ws h
  rcases List.mem_append.1 h with h | h
  · obtain ⟨x, -, rfl⟩ := List.mem_map.1 h
    have := rul_ok x
    exact ⟨this.1, this.2, _, rfl⟩
  · exact fix_each ws h
theorem reads_src (l : List Rz) : Reads rd0 ((srcWs l).map joinT) ⟨srcO l, false⟩ := by
  have h1 := reads_rules ((l.take 7).map rulWs ++ fixWs) [] [] [] (rules_each l)
  obtain ⟨a1, a2, a3⟩ := ersOf_all l 0
  obtain ⟨b1, b2, b3⟩ := ersOf_all l 1
  have h2 := reads_zone (rs := ((l.take 7).map rulWs ++ fixWs).map rulO) (ls := []) (pre := []) (nm := oneWd) a3 (by decide +kernel) (by decide +kernel) _ a1 (by omega)
  have h3 := reads_zone (rs := ((l.take 7).map rulWs ++ fixWs).map rulO) (ls := []) (pre := [⟨bx oneWd, (ersOf l 0).map erO⟩]) (nm := twoWd) b3 (by decide +kernel) (by decide +kernel) _ b1 (by omega)
  have k1 := link_ok (rs := ((l.take 7).map rulWs ++ fixWs).map rulO) (ls := []) (zs := [⟨bx oneWd, (ersOf l 0).map erO⟩, ⟨bx twoWd, (ersOf l 1).map erO⟩]) (a := oneWd) (b := threeWd) (by decide +kernel) (by decide +kernel) (by decide +kernel) (by decide +kernel)
  have k2 := link_ok (rs := ((l.take 7).map rulWs ++ fixWs).map rulO) (ls := [] ++ [⟨bx oneWd, bx threeWd⟩]) (zs := [⟨bx oneWd, (ersOf l 0).map erO⟩, ⟨bx twoWd, (ersOf l 1).map erO⟩]) (a := threeWd) (b := fourWd) (by decide +kernel) (by decide +kernel) (by decide +kernel) (by decide +kernel)
  have h4 : Reads ⟨⟨((l.take 7).map rulWs ++ fixWs).map rulO, [⟨bx oneWd, (ersOf l 0).map erO⟩, ⟨bx twoWd, (ersOf l 1).map erO⟩], []⟩, false⟩ (linWs.map joinT) ⟨srcO l, false⟩ := by
    refine ⟨k1.1, ?_⟩
    rw [show linV _ (joinT [[76, 105, 110, 107], [79, 110, 101, 47, 65], [84, 104, 114, 101, 101]]) = _ from k1.2]
    refine ⟨k2.1, ?_⟩
    rw [show linV _ (joinT [[76, 105, 110, 107], [84, 104, 114, 101, 101], [70, 111, 117, 114]]) = _ from k2.2]
    rfl
  have e : (srcWs l).map joinT = ((l.take 7).map rulWs ++ fixWs).map joinT ++ ((headWs oneWd (ersOf l 0)).map joinT ++ ((headWs twoWd (ersOf l 1)).map joinT ++ linWs.map joinT)) := by
    unfold srcWs
    simp only [List.map_append, List.append_assoc]
  rw [e]
  exact h1.app (h2.app (h3.app h4))
/-- all words of all lines may be. -/
theorem headWs_all (nm : Wd) (hw : wok nm = true) : ∀ (L : List (List Wd)), (∀ ws ∈ L, ws.all wok = true) → ∀ ws ∈ headWs nm L, ws.all wok = true
  | [], _, ws, h => by simp [headWs] at h
  | x :: L, h, ws, hx => by
    rcases List.mem_cons.1 hx with rfl | hx
    · rw [List.all_cons, List.all_cons, hw, h x (by simp)]; rfl
    · exact h ws (by simp [hx])
theorem ers_all (l : List Rz) (z : Nat) : ∀ ws ∈ ersOf l z, ws.all wok = true ∧ ws.length ≤ 7 := by
  obtain ⟨a1, a2, a3⟩ := ersOf_all l z
  intro ws h
  rcases List.mem_append.1 h with h | h
  · refine ⟨(a1 ws h).1, ?_⟩
    have : ∀ (l : List Rz) (y : Int), ∀ ws ∈ ersWs l y, ws.length ≤ 7 := by
      intro l
      induction l with
      | nil => intro y ws h; simp [ersWs] at h
      | cons x l ih =>
        intro y ws h
        rcases List.mem_cons.1 h with rfl | h
        · simp [eraWs, untWs]
        · exact ih _ ws h
    exact this _ _ ws h
  · rw [List.mem_singleton.1 h]
    exact ⟨a3.1, by simp [eraWs]⟩
theorem headWs_len (nm : Wd) (n : Nat) : ∀ (L : List (List Wd)), (∀ ws ∈ L, ws.length ≤ n) → ∀ ws ∈ headWs nm L, ws.length ≤ n + 2
  | [], _, ws, h => by simp [headWs] at h
  | x :: L, h, ws, hx => by
    rcases List.mem_cons.1 hx with rfl | hx
    · have := h x (by simp); simp; omega
    · have := h ws (by simp [hx]); omega
theorem headWs_count (nm : Wd) : ∀ (L : List (List Wd)), (headWs nm L).length = L.length
  | [] => rfl
  | _ :: _ => rfl
theorem src_all (l : List Rz) : (∀ ws ∈ srcWs l, ws.all wok = true ∧ ws.length ≤ 10) ∧ (srcWs l).length ≤ 23 := by
  have f : ∀ ws ∈ fixWs, ws.length ≤ 10 := by
    intro ws h
    simp only [fixWs, List.mem_cons, List.not_mem_nil, or_false] at h
    rcases h with rfl | rfl | rfl | rfl <;> simp
  have k : ∀ ws ∈ linWs, ws.all wok = true ∧ ws.length ≤ 10 := by
    intro ws h
    simp only [linWs, List.mem_cons, List.not_mem_nil, or_false] at h
    rcases h with rfl | rfl <;> exact ⟨by decide +kernel, by simp⟩
  refine ⟨?_, ?_⟩
  · intro ws h
    unfold srcWs at h
    rcases List.mem_append.1 h with h | h
    · obtain ⟨x, -, rfl⟩ := List.mem_map.1 h
      exact ⟨(rul_ok x).1, by simp [rulWs]⟩
    · rcases List.mem_append.1 h with h | h
      · exact ⟨(fix_each ws h).1, f ws h⟩
      · rcases List.mem_append.1 h with h | h
        · exact ⟨headWs_all _ (by decide +kernel) _ (fun ws h => (ers_all l 0 ws h).1) ws h, by have := headWs_len oneWd 7 _ (fun ws h => (ers_all l 0 ws h).2) ws h; omega⟩
        · rcases List.mem_append.1 h with h | h
          · exact ⟨headWs_all _ (by decide +kernel) _ (fun ws h => (ers_all l 1 ws h).1) ws h, by have := headWs_len twoWd 7 _ (fun ws h => (ers_all l 1 ws h).2) ws h; omega⟩
          · exact k ws h
  · have h0 : (ersOf l 0).length ≤ 5 := by unfold ersOf; rw [List.length_append]; have := (ersOf_all l 0).2.1; simp only [List.length_cons, List.length_nil]; omega
    have h1 : (ersOf l 1).length ≤ 5 := by unfold ersOf; rw [List.length_append]; have := (ersOf_all l 1).2.1; simp only [List.length_cons, List.length_nil]; omega
    unfold srcWs
    simp only [List.length_append, List.length_map, List.length_take, headWs_count]
    show min 7 l.length + (4 + (_ + (_ + 2))) ≤ 23
    omega
theorem join_len : ∀ (ws : List Wd), ws.all wok = true → (joinT ws).length ≤ 21 * ws.length
  | [], _ => Nat.zero_le _
  | [a], h => by
    simp only [List.all_cons, List.all_nil, Bool.and_true] at h
    have := ((wok_iff a).1 h).2.1
    show a.length ≤ 21 * 1
    omega
  | a :: b :: l, h => by
    rw [List.all_cons, Bool.and_eq_true] at h
    have h1 := ((wok_iff a).1 h.1).2.1
    have h2 := join_len (b :: l) h.2
    show (a ++ 32 :: joinT (b :: l)).length ≤ _
    rw [List.length_append, List.length_cons]
    simp only [List.length_cons] at h2 ⊢
    omega
theorem lns_len : ∀ (L : List (List Wd)), (∀ ws ∈ L, ws.all wok = true ∧ ws.length ≤ 10) → (lnsT L).length ≤ 211 * L.length
  | [], _ => Nat.zero_le _
  | ws :: L, h => by
    have h1 := join_len ws (h ws (by simp)).1
    have h2 := (h ws (by simp)).2
    have h3 := lns_len L (fun x hx => h x (by simp [hx]))
    show ((joinT ws ++ [10]) ++ lnsT L).length ≤ _
    simp only [List.length_append, List.length_cons, List.length_nil]
    omega
theorem srcT_len (l : List Rz) : (srcT l).length ≤ 4900 := by
  have h := src_all l
  have := lns_len (srcWs l) h.1
  have h2 := h.2
  unfold srcT
  omega
/-- the text's lines; a text behind it. -/
theorem srcT_lines (l : List Rz) (t : Wd) : linesS (bx (srcT l ++ t)) = (srcWs l).map joinT ++ splB 10 [] t := by
  show splB 10 [] (lnsT (srcWs l) ++ t) = _
  exact splB_lns _ t (List.all_eq_true.2 fun ws h => ((src_all l).1 ws h).1)
theorem linsF_app : ∀ {L : List (List UInt8)} {st st' : RdS}, Reads st L st' → ∀ (i : Nat) (M : List (List UInt8)), linsF st i (L ++ M) = linsF st' (i + L.length) M
  | [], st, st', h, i, M => by
    have h : st = st' := h
    rw [h]; rfl
  | l :: L, st, st', h, i, M => by
    show (if linE st l ≠ 0 then _ else linsF (linV st l) (i + 1) (L ++ M)) = _
    rw [if_neg (by simp [h.1]), linsF_app h.2 (i + 1) M, List.length_cons]
    congr 1
    omega
/-- the source with a line behind it. -/
theorem src_more (l : List Rz) (t : Wd) (ht : (10 : UInt8) ∉ t) : linsF rd0 0 (linesS (bx (srcT l ++ t))) = linsF ⟨srcO l, false⟩ (srcWs l).length [t] ∧ (linesS (bx (srcT l ++ t))).length = (srcWs l).length + 1 := by
  have e : splB 10 [] t = [t] := by
    have : ∀ (w cur : Wd), (10 : UInt8) ∉ w → splB 10 cur w = [cur ++ w] := by
      intro w
      induction w with
      | nil => intro cur _; show [cur] = _; rw [List.append_nil]
      | cons x w ih =>
        intro cur h
        show (if x = 10 then _ else splB 10 (cur ++ [x]) w) = _
        rw [if_neg (fun e => h (by simp [e])), ih _ (fun e => h (by simp [e]))]
        simp
    exact this t [] ht
  rw [srcT_lines, e]
  refine ⟨?_, by simp⟩
  rw [linsF_app (reads_src l), List.length_map, Nat.zero_add]
theorem src_reads (l : List Rz) : srcX (bx (srcT l)) = 0 ∧ srcL (bx (srcT l)) = 0 ∧ srcV (bx (srcT l)) = srcO l := by
  have h := src_more l [] (by simp)
  rw [List.append_nil] at h
  have h0 : linsF ⟨srcO l, false⟩ (srcWs l).length [[]] = ((⟨srcO l, false⟩, (srcWs l).length + 1), 0) := rfl
  rw [h0] at h
  obtain ⟨h1, h2⟩ := h
  have hz : ¬ 8000 < (bx (srcT l)).size := by rw [bx_size]; have := srcT_len l; omega
  have hn : ¬ 200 < (linesS (bx (srcT l))).length := by rw [h2]; have := (src_all l).2; omega
  have hc : ¬ (8000 < (bx (srcT l)).size ∨ 200 < (linesS (bx (srcT l))).length) := by rintro (h | h); exact hz h; exact hn h
  refine ⟨?_, ?_, ?_⟩
  · unfold srcX
    rw [if_neg hc, h1]
    rfl
  · unfold srcL
    rw [if_neg hc, h1]
    rfl
  · unfold srcV
    rw [h1, if_neg (by rintro (h | h | h | h); exact hz h; exact hn h; exact h rfl; cases h)]
end Go.Proofs.YtbikdlcjbigafaaGreatDoor
