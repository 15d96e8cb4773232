/-
  A source of raw things: how many lines, how many rules; a line that is none.
-/
import Derived.Lib.IndexMore
import Derived.Test.YtbciennhcdabeaaDoorSoC
namespace Go.Proofs.YtbciennhcdabeaaDoor
set_option linter.unusedVariables false
set_option linter.unusedSimpArgs false
open Go.ChangeShapes Go.WideShapes Go.ChangeAt Go.RowKit Civ

theorem join_cnt (ws : List Wd) (h : ws.all wok = true) : (joinT ws).count 10 = 0 := List.count_eq_zero.2 (join_nl ws h)
theorem lns_cnt : ∀ (L : List (List Wd)), (∀ ws ∈ L, ws.all wok = true ∧ ws.length ≤ 10) → (lnsT L).count 10 = L.length
  | [], _ => rfl
  | ws :: L, h => by
    show ((joinT ws ++ [10]) ++ lnsT L).count 10 = _
    rw [List.count_append, List.count_append, join_cnt ws (h ws (by simp)).1, lns_cnt L (fun x hx => h x (by simp [hx])), List.length_cons]
    simp
    omega
theorem srcT_cnt (l : List Rz) : (srcT l).count 10 = (srcWs l).length := lns_cnt _ (src_all l).1
def oddL : List Wd := [[114, 117, 108, 101], [82, 117, 108, 101, 32, 69, 85], [90, 111, 110, 101], [90, 111, 110, 101, 32, 65, 32, 49, 58, 48, 48, 32, 45], [76, 105, 110, 107, 32, 65], [90, 111, 110, 101, 32, 49, 65, 32, 48, 32, 45, 32, 88], [90, 111, 110, 101, 32, 65, 32, 50, 53, 58, 48, 48, 32, 45, 32, 88], [90, 111, 110, 101, 32, 65, 32, 48, 32, 45, 32, 88, 37], [90, 111, 110, 101, 32, 65, 32, 48, 32, 45, 32, 88, 32, 49, 56, 57, 57], [82, 117, 108, 101, 32, 82, 32, 49, 57, 57, 48, 32, 49, 57, 56, 48, 32, 45, 32, 74, 97, 110, 32, 49, 32, 48, 32, 48, 32, 45], [82, 117, 108, 101, 32, 82, 32, 49, 57, 57, 48, 32, 109, 97, 120, 32, 45, 32, 74, 110, 110, 32, 49, 32, 48, 32, 48, 32, 45], [82, 117, 108, 101, 32, 82, 32, 49, 57, 57, 48, 32, 109, 97, 120, 32, 45, 32, 74, 97, 110, 32, 51, 50, 32, 48, 32, 48, 32, 45], [82, 117, 108, 101, 32, 82, 32, 49, 57, 57, 48, 32, 109, 97, 120, 32, 45, 32, 74, 97, 110, 32, 49, 32, 48, 120, 32, 48, 32, 45], [82, 117, 108, 101, 32, 82, 32, 49, 57, 57, 48, 32, 109, 97, 120, 32, 45, 32, 74, 97, 110, 32, 49, 32, 48, 58, 54, 48, 32, 48, 32, 45], [76, 105, 110, 107, 32, 97, 97, 97, 97, 97, 97, 97, 97, 97, 97, 97, 97, 97, 97, 97, 97, 97, 97, 97, 97, 97, 32, 98], [90, 111, 110, 101, 32, 65, 32, 48, 32, 45, 32, 88, 32, 49, 57, 57, 48]]
def errL : List Int := [4, 4, 4, 4, 4, 4, 2, 4, 2, 8, 4, 2, 4, 4, 1, 5]
theorem odd_nl : (oddL.all fun t => decide ((10 : UInt8) ∉ t) && decide (t.length ≤ 100)) = true := by decide +kernel
theorem odd_e : ((List.range 15).all fun i => decide (linE rd0 (oddL.getD i []) = errL.getD i 0) && decide (errL.getD i 0 ≠ 0)) = true := by decide +kernel
theorem odd_z : linE rd0 (oddL.getD 15 []) = 0 ∧ (linV rd0 (oddL.getD 15 [])).op = true := by decide +kernel
theorem lnE_shut (s : Src) (w : List ByteArray) : lnE ⟨s, false⟩ w = lnE rd0 w := by
  unfold lnE
  rw [if_neg (show ¬ (RdS.mk s false).op = true by simp), if_neg (show ¬ rd0.op = true by decide)]
theorem linE_shut (s : Src) (t : Wd) : linE ⟨s, false⟩ t = linE rd0 t := by
  unfold linE
  rw [lnE_shut]
theorem linV_shut (s : Src) (t : Wd) : (linV ⟨s, false⟩ t).op = (linV rd0 t).op := by
  unfold linV lnV
  rw [if_neg (show ¬ (RdS.mk s false).op = true by simp), if_neg (show ¬ rd0.op = true by decide)]
  split
  · rfl
  · split
    · rfl
    · split <;> rfl
theorem odd_read (l : List Rz) (i : Nat) (hi : i < 16) : srcX (bx (srcT l ++ oddL.getD i [])) = errL.getD i 0 ∧ srcL (bx (srcT l ++ oddL.getD i [])) = ((srcWs l).length : Int) + 1 ∧ srcV (bx (srcT l ++ oddL.getD i [])) = src0 := by
  obtain ⟨t, ht⟩ : ∃ t, oddL.getD i [] = t := ⟨_, rfl⟩
  have hm : t ∈ oddL := by rw [← ht, List.getD_eq_getElem?_getD, List.getElem?_eq_getElem (by show i < 16; exact hi)]; exact List.getElem_mem _
  have h0 := List.all_eq_true.1 odd_nl t hm
  rw [Bool.and_eq_true, decide_eq_true_eq, decide_eq_true_eq] at h0
  obtain ⟨h1, h2⟩ := src_more l t h0.1
  rw [ht]
  have hz : ¬ 8000 < (bx (srcT l ++ t)).size := by rw [bx_size, List.length_append]; have := srcT_len l; omega
  have hn : ¬ 200 < (linesS (bx (srcT l ++ t))).length := by rw [h2]; have := (src_all l).2; omega
  have hc : ¬ (8000 < (bx (srcT l ++ t)).size ∨ 200 < (linesS (bx (srcT l ++ t))).length) := by rintro (h | h); exact hz h; exact hn h
  by_cases h15 : i < 15
  · have he := all_of odd_e h15
    rw [ht, Bool.and_eq_true, decide_eq_true_eq, decide_eq_true_eq] at he
    obtain ⟨e1, e2⟩ := he
    have hl : linsF ⟨srcO l, false⟩ (srcWs l).length [t] = ((⟨srcO l, false⟩, (srcWs l).length + 1), errL.getD i 0) := by
      show (if linE _ t ≠ 0 then _ else _) = _
      rw [linE_shut, e1, if_pos e2]
    rw [hl] at h1
    refine ⟨?_, ?_, ?_⟩
    · unfold srcX
      rw [if_neg hc, h1, if_pos e2]
    · unfold srcL
      rw [if_neg hc, h1, if_pos e2]
      rfl
    · unfold srcV
      rw [h1, if_pos (.inr (.inr (.inl e2)))]
  · obtain rfl : i = 15 := by omega
    obtain ⟨z1, z2⟩ := odd_z
    rw [ht] at z1 z2
    have hl : linsF ⟨srcO l, false⟩ (srcWs l).length [t] = ((linV ⟨srcO l, false⟩ t, (srcWs l).length + 1), 0) := by
      show (if linE _ t ≠ 0 then _ else _) = _
      rw [linE_shut, z1, if_neg (by simp)]
      rfl
    have ho : (linV ⟨srcO l, false⟩ t).op = true := by rw [linV_shut]; exact z2
    rw [hl] at h1
    refine ⟨?_, ?_, ?_⟩
    · unfold srcX
      rw [if_neg hc, h1, if_neg (by simp), if_pos ho]
      rfl
    · unfold srcL
      rw [if_neg hc, h1, if_neg (by simp), if_pos ho, h2]
      simp
    · unfold srcV
      rw [h1, if_pos (.inr (.inr (.inr ho)))]
/-- 'Rule ' stands where a rule's line begins, and nowhere else. -/
theorem index_no (s : Wd) (h : (82 : UInt8) ∉ s) : Lib.index s [82, 117, 108, 101, 32] = -1 := by
  induction s with
  | nil => rfl
  | cons c s ih =>
    have h1 : ¬ ([82, 117, 108, 101, 32] : Wd).isPrefixOf (c :: s) = true := by
      rw [List.isPrefixOf_iff_prefix]
      intro e
      have := (List.cons_prefix_cons.1 e).1
      exact h (by simp [← this])
    unfold Lib.index
    rw [if_neg h1, ih (fun e => h (by simp [e]))]
    rfl
theorem index_yes (p s : Wd) (h : (82 : UInt8) ∉ p) : Lib.index (p ++ ([82, 117, 108, 101, 32] ++ s)) [82, 117, 108, 101, 32] = (p.length : Int) := by
  induction p with
  | nil =>
    show Lib.index (82 :: (117 :: 108 :: 101 :: 32 :: s)) _ = _
    unfold Lib.index
    rw [if_pos (by rw [List.isPrefixOf_iff_prefix]; exact ⟨s, rfl⟩)]
    rfl
  | cons c p ih =>
    have h1 : ¬ ([82, 117, 108, 101, 32] : Wd).isPrefixOf (c :: (p ++ ([82, 117, 108, 101, 32] ++ s))) = true := by
      rw [List.isPrefixOf_iff_prefix]
      intro e
      have := (List.cons_prefix_cons.1 e).1
      exact h (by simp [← this])
    rw [List.cons_append]
    unfold Lib.index
    rw [if_neg h1, ih (fun e => h (by simp [e]))]
    rw [if_neg (by rw [beq_iff_eq]; omega), List.length_cons]
    omega
def prtT (P : List (Bool × Wd)) : Wd := P.flatMap fun x => (if x.1 then [82, 117, 108, 101, 32] else []) ++ x.2
/-- a text of parts: each begins with 'Rule ', or has no R. -/
theorem cnt_parts : ∀ (P : List (Bool × Wd)) (p : Wd) (f : Nat), (82 : UInt8) ∉ p → (∀ x ∈ P, (82 : UInt8) ∉ x.2) → P.length < f → Lib.countFrom [82, 117, 108, 101, 32] f (p ++ prtT P) = (P.filter fun x => x.1).length
  | [], p, f, hp, _, hf => by
    obtain ⟨f, rfl⟩ : ∃ k, f = k + 1 := ⟨f - 1, by simp at hf; omega⟩
    show Lib.countFrom _ (f + 1) (p ++ []) = _
    rw [List.append_nil]
    unfold Lib.countFrom
    rw [index_no p hp]
    rfl
  | (false, x) :: P, p, f, hp, h, hf => by
    have := cnt_parts P (p ++ x) f (by simp only [List.mem_append, not_or]; exact ⟨hp, h (false, x) (by simp)⟩) (fun y hy => h y (by simp [hy])) (by simp at hf ⊢; omega)
    rw [List.append_assoc] at this
    exact this
  | (true, x) :: P, p, f, hp, h, hf => by
    obtain ⟨f, rfl⟩ : ∃ k, f = k + 1 := ⟨f - 1, by simp at hf; omega⟩
    have := cnt_parts P x f (h (true, x) (by simp)) (fun y hy => h y (by simp [hy])) (by simp at hf ⊢; omega)
    show Lib.countFrom _ (f + 1) (p ++ (([82, 117, 108, 101, 32] ++ x) ++ prtT P)) = _
    unfold Lib.countFrom
    rw [List.append_assoc, index_yes p _ hp, if_neg (by rw [beq_iff_eq]; omega)]
    have e : (p ++ ([82, 117, 108, 101, 32] ++ (x ++ prtT P))).drop (((p.length : Nat) : Int).toNat + ([82, 117, 108, 101, 32] : Wd).length) = x ++ prtT P := by
      rw [Int.toNat_natCast, ← List.append_assoc, List.drop_left' (by simp)]
    rw [e, this]
    show 1 + _ = (_ :: _ : List (Bool × Wd)).length
    rw [List.length_cons]
    omega
/-- no R. -/
def noR (w : Wd) : Bool := decide ((82 : UInt8) ∉ w)
theorem noR_join : ∀ (ws : List Wd), ws.all noR = true → (82 : UInt8) ∉ joinT ws
  | [], _ => by simp [joinT]
  | [a], h => by
    simp only [List.all_cons, List.all_nil, Bool.and_true] at h
    exact of_decide_eq_true h
  | a :: b :: l, h => by
    rw [List.all_cons, Bool.and_eq_true] at h
    show (82 : UInt8) ∉ a ++ 32 :: joinT (b :: l)
    intro e
    rcases List.mem_append.1 e with e | e
    · exact of_decide_eq_true h.1 e
    · rcases List.mem_cons.1 e with e | e
      · cases e
      · exact noR_join (b :: l) h.2 e
theorem noR_dec : ∀ (k n : Nat), n < k → (82 : UInt8) ∉ Lib.decDigits n
  | 0, n, h => by omega
  | k + 1, n, h => by
    unfold Lib.decDigits
    have dg : ∀ m : Nat, m < 10 → (82 : UInt8) ≠ UInt8.ofNat (48 + m) := by decide
    split
    · rename_i h1
      intro e
      exact dg n h1 (List.mem_singleton.1 e)
    · intro e
      rcases List.mem_append.1 e with e | e
      · exact noR_dec k (n / 10) (by omega) e
      · exact dg (n % 10) (by omega) (List.mem_singleton.1 e)
theorem noR_itoa (n : Int) : noR (Lib.itoa n) = true := by
  unfold noR
  rw [decide_eq_true_eq]
  unfold Lib.itoa
  split
  · intro e
    rcases List.mem_cons.1 e with e | e
    · cases e
    · exact noR_dec _ _ (Nat.lt_succ_self _) e
  · exact noR_dec _ _ (Nat.lt_succ_self _)
theorem noR_pic (l : List Wd) (h : l.all noR = true) (k : Int) : noR (picL l k) = true := by
  unfold picL
  rw [List.getD_eq_getElem?_getD]
  cases hk : l[k.toNat]? with
  | none => rfl
  | some x =>
    obtain ⟨h1, h2⟩ := List.getElem?_eq_some_iff.1 hk
    show noR x = true
    rw [← h2]
    exact List.all_eq_true.1 h _ (List.getElem_mem _)
theorem noR_app {a b : Wd} (ha : noR a = true) (hb : noR b = true) : noR (a ++ b) = true := by
  unfold noR at *
  rw [decide_eq_true_eq] at *
  simp only [List.mem_append, not_or]
  exact ⟨ha, hb⟩
theorem noR_cons {c : UInt8} {b : Wd} (hc : c ≠ 82) (hb : noR b = true) : noR (c :: b) = true := by
  unfold noR at *
  rw [decide_eq_true_eq] at *
  simp only [List.mem_cons, not_or]
  exact ⟨fun e => hc e.symm, hb⟩
theorem noR_two (n : Int) : noR (twoT n) = true := noR_app (noR_itoa _) (noR_itoa _)
theorem noR_hrs (n : Int) : noR (hrsT n) = true := by
  unfold hrsT hrsG
  refine noR_app (noR_itoa _) ?_
  split
  · exact noR_cons (by decide) (noR_two _)
  · split
    · exact noR_app (by decide) (noR_two _)
    · rfl
theorem noR_day (n : Int) : noR (dayT n) = true := by
  have hw := noR_pic wdL (by decide +kernel) (pkz (n.tdiv 4) 7)
  unfold dayT dayG
  refine noR_pic _ ?_ _
  simp only [List.all_cons, List.all_nil, Bool.and_true, Bool.and_eq_true]
  exact ⟨noR_itoa _, noR_app (by decide) hw, noR_app hw (noR_app (by decide) (noR_itoa _)), noR_app hw (noR_app (by decide) (noR_itoa _))⟩
theorem noR_mon (n : Int) : noR (monT n) = true := noR_pic monL (by decide +kernel) _
theorem noR_rul (x : Rz) : (rulWs x).tail.all noR = true := by
  have h3 : noR (toT x) = true := by
    unfold toT
    refine noR_pic _ ?_ _
    simp only [List.all_cons, List.all_nil, Bool.and_true, Bool.and_eq_true]
    exact ⟨by decide, by decide, noR_itoa _⟩
  simp only [rulWs, List.tail_cons, List.all_cons, List.all_nil, Bool.and_true, Bool.and_eq_true]
  exact ⟨noR_pic rnmL (by decide +kernel) _, noR_itoa _, h3, by decide, noR_mon _, noR_day _, noR_app (noR_hrs _) (noR_pic sfxL (by decide +kernel) _), noR_pic savL (by decide +kernel) _, noR_pic letL (by decide +kernel) _⟩
theorem noR_era (x : Rz) : (eraWs x).all noR = true := by
  simp only [eraWs, List.all_cons, List.all_nil, Bool.and_true, Bool.and_eq_true]
  exact ⟨noR_pic offL (by decide +kernel) _, noR_pic rlsL (by decide +kernel) _, noR_pic fmtT (by decide +kernel) _⟩
theorem noR_ers : ∀ (l : List Rz) (y : Int), ∀ ws ∈ ersWs l y, ws.all noR = true
  | [], _, ws, h => by simp [ersWs] at h
  | x :: l, y, ws, h => by
    rcases List.mem_cons.1 h with rfl | h
    · rw [List.all_append, noR_era x]
      simp only [untWs, List.all_cons, List.all_nil, Bool.and_true, Bool.and_eq_true, Bool.true_and]
      exact ⟨noR_itoa _, noR_mon _, noR_day _, noR_hrs _⟩
    · exact noR_ers l _ ws h
theorem noR_ersOf (l : List Rz) (z : Nat) : ∀ ws ∈ ersOf l z, ws.all noR = true := by
  intro ws h
  rcases List.mem_append.1 h with h | h
  · exact noR_ers _ _ ws h
  · rw [List.mem_singleton.1 h]; exact noR_era _
theorem noR_head (nm : Wd) (hw : noR nm = true) : ∀ (L : List (List Wd)), (∀ ws ∈ L, ws.all noR = true) → ∀ ws ∈ headWs nm L, ws.all noR = true
  | [], _, ws, h => by simp [headWs] at h
  | x :: L, h, ws, hx => by
    rcases List.mem_cons.1 hx with rfl | hx
    · rw [List.all_cons, List.all_cons, hw, h x (by simp)]; rfl
    · exact h ws (by simp [hx])
/-- a line's part. -/
def prtR (ws : List Wd) : Bool × Wd := (true, joinT ws.tail ++ [10])
def prtN (ws : List Wd) : Bool × Wd := (false, joinT ws ++ [10])
theorem lns_prtR : ∀ (L : List (List Wd)), (∀ ws ∈ L, ∃ a l, ws = rulWd :: a :: l) → lnsT L = prtT (L.map prtR)
  | [], _ => rfl
  | ws :: L, h => by
    obtain ⟨a, l, rfl⟩ := h ws (by simp)
    show (joinT (rulWd :: a :: l) ++ [10]) ++ lnsT L = _
    rw [lns_prtR L (fun x hx => h x (by simp [hx]))]
    rfl
theorem lns_prtN : ∀ (L : List (List Wd)), lnsT L = prtT (L.map prtN)
  | [] => rfl
  | ws :: L => by
    show (joinT ws ++ [10]) ++ lnsT L = _
    rw [lns_prtN L]
    rfl
theorem filt_R : ∀ (L : List (List Wd)), ((L.map prtR).filter fun x => x.1).length = L.length
  | [] => rfl
  | _ :: L => by show ((L.map prtR).filter fun x => x.1).length + 1 = _; rw [filt_R L, List.length_cons]
theorem filt_N : ∀ (L : List (List Wd)), ((L.map prtN).filter fun x => x.1).length = 0
  | [] => rfl
  | _ :: L => filt_N L
theorem srcT_rules (l : List Rz) : Lib.count (srcT l) [82, 117, 108, 101, 32] = (srcO l).rules.length := by
  have hR : ∀ ws ∈ (l.take 7).map rulWs ++ fixWs, (∃ a m, ws = rulWd :: a :: m) ∧ ws.tail.all noR = true := by
    intro ws h
    rcases List.mem_append.1 h with h | h
    · obtain ⟨x, -, rfl⟩ := List.mem_map.1 h
      exact ⟨⟨_, _, rfl⟩, noR_rul x⟩
    · simp only [fixWs, List.mem_cons, List.not_mem_nil, or_false] at h
      rcases h with rfl | rfl | rfl | rfl <;> exact ⟨⟨_, _, rfl⟩, by decide +kernel⟩
  obtain ⟨R, hRd⟩ : ∃ R, R = (l.take 7).map rulWs ++ fixWs := ⟨_, rfl⟩
  obtain ⟨N, hN⟩ : ∃ N, N = headWs oneWd (ersOf l 0) ++ (headWs twoWd (ersOf l 1) ++ linWs) := ⟨_, rfl⟩
  have hNo : ∀ ws ∈ N, ws.all noR = true := by
    intro ws h
    rw [hN] at h
    rcases List.mem_append.1 h with h | h
    · exact noR_head _ (by decide +kernel) _ (noR_ersOf l 0) ws h
    · rcases List.mem_append.1 h with h | h
      · exact noR_head _ (by decide +kernel) _ (noR_ersOf l 1) ws h
      · simp only [linWs, List.mem_cons, List.not_mem_nil, or_false] at h
        rcases h with rfl | rfl <;> decide +kernel
  rw [← hRd] at hR
  have e : srcT l = lnsT R ++ lnsT N := by
    unfold srcT lnsT srcWs
    rw [hRd, hN, ← List.flatMap_append]
    simp only [List.append_assoc]
  have e2 : srcT l = [] ++ prtT (R.map prtR ++ N.map prtN) := by
    rw [e, lns_prtR R (fun ws h => (hR ws h).1), lns_prtN N, List.nil_append]
    unfold prtT
    rw [List.flatMap_append]
  have hlen : (R.map prtR ++ N.map prtN).length ≤ (srcT l).length := by
    have h1 := srcT_cnt l
    have h2 : (srcT l).count 10 ≤ (srcT l).length := List.count_le_length
    have h3 : (srcWs l).length = (R.map prtR ++ N.map prtN).length := by
      rw [hRd, hN]
      unfold srcWs
      simp only [List.length_append, List.length_map]
      omega
    omega
  have hx : ∀ x ∈ R.map prtR ++ N.map prtN, (82 : UInt8) ∉ x.2 := by
    intro x hx
    rcases List.mem_append.1 hx with hx | hx
    · obtain ⟨ws, hw, rfl⟩ := List.mem_map.1 hx
      show (82 : UInt8) ∉ joinT ws.tail ++ [10]
      simp only [List.mem_append, List.mem_singleton, not_or]
      exact ⟨noR_join _ (hR ws hw).2, by decide⟩
    · obtain ⟨ws, hw, rfl⟩ := List.mem_map.1 hx
      show (82 : UInt8) ∉ joinT ws ++ [10]
      simp only [List.mem_append, List.mem_singleton, not_or]
      exact ⟨noR_join _ (hNo ws hw), by decide⟩
  have hc := cnt_parts (R.map prtR ++ N.map prtN) [] ((srcT l).length + 1) (by simp) hx (by omega)
  rw [← e2] at hc
  unfold Lib.count
  rw [hc, List.filter_append, List.length_append, filt_R, filt_N]
  show R.length + 0 = (((l.take 7).map rulWs ++ fixWs).map rulO).length
  rw [List.length_map, ← hRd, Nat.add_zero]
end Go.Proofs.YtbciennhcdabeaaDoor
