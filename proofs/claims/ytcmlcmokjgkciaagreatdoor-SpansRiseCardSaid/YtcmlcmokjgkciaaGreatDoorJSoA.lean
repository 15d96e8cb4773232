/-
  A source of raw things: its text, as words of lines; how it reads. · A source of raw things: each of its lines is read.
-/
import Derived.Lib.ItoaMem
import Derived.Test.YtcmlcmokjgkciaaGreatDoorJPrsB
namespace Go.Proofs.YtcmlcmokjgkciaaGreatDoor
set_option linter.unusedVariables false
set_option linter.unusedSimpArgs false
open Go.ChangeShapes Go.WideShapes Go.ChangeAt Go.RowKit Civ

abbrev Wd := List UInt8
def pkz (n many : Int) : Int := (if n < 0 then -(n + 1) else n) % many
def twoT (n : Int) : Wd := Lib.itoa (n.tdiv 10) ++ Lib.itoa (n.tmod 10)
def zonWd : Wd := [90, 111, 110, 101]
/-- words, with blanks between them. -/
def joinT : List Wd → Wd
  | [] => []
  | [a] => a
  | a :: b :: l => a ++ 32 :: joinT (b :: l)
/-- a word that may be. -/
def wok (w : Wd) : Bool := decide (w ≠ []) && (decide (w.length ≤ 20) && w.all fun c => decide (c ≠ 32) && decide (c ≠ 9) && decide (c ≠ 35) && decide (c ≠ 10))
theorem wok_iff (w : Wd) : wok w = true ↔ w ≠ [] ∧ w.length ≤ 20 ∧ ∀ c ∈ w, c ≠ 32 ∧ c ≠ 9 ∧ c ≠ 35 ∧ c ≠ 10 := by
  unfold wok
  simp only [Bool.and_eq_true, decide_eq_true_eq, List.all_eq_true, and_assoc]
theorem wdsF_word : ∀ (w cur : Wd) (rest : Wd), (∀ c ∈ w, c ≠ 32 ∧ c ≠ 9 ∧ c ≠ 35 ∧ c ≠ 10) → cur ++ w ≠ [] → wdsF cur (w ++ 32 :: rest) = (cur ++ w) :: wdsF [] rest
  | [], cur, rest, _, hn => by
    rw [List.append_nil] at hn ⊢
    show (if (32 : UInt8) = 35 then _ else if (32 : UInt8) = 32 ∨ _ then (if cur = [] then _ else _) else _) = _
    rw [if_neg (by decide), if_pos (.inl rfl), if_neg hn]
  | c :: w, cur, rest, h, hn => by
    obtain ⟨h1, h2, h3, -⟩ := h c (by simp)
    show (if c = 35 then _ else if c = 32 ∨ c = 9 then _ else wdsF (cur ++ [c]) (w ++ 32 :: rest)) = _
    rw [if_neg h3, if_neg (by rintro (e | e); exact h1 e; exact h2 e), wdsF_word w (cur ++ [c]) rest (fun c hc => h c (by simp [hc])) (by simp)]
    simp
theorem wdsF_last : ∀ (w cur : Wd), (∀ c ∈ w, c ≠ 32 ∧ c ≠ 9 ∧ c ≠ 35 ∧ c ≠ 10) → cur ++ w ≠ [] → wdsF cur w = [cur ++ w]
  | [], cur, _, hn => by
    rw [List.append_nil] at hn ⊢
    show (if cur = [] then _ else _) = _
    rw [if_neg hn]
  | c :: w, cur, h, hn => by
    obtain ⟨h1, h2, h3, -⟩ := h c (by simp)
    show (if c = 35 then _ else if c = 32 ∨ c = 9 then _ else wdsF (cur ++ [c]) w) = _
    rw [if_neg h3, if_neg (by rintro (e | e); exact h1 e; exact h2 e), wdsF_last w (cur ++ [c]) (fun c hc => h c (by simp [hc])) (by simp)]
    simp
theorem wdsF_join : ∀ (ws : List Wd), ws.all wok = true → wdsF [] (joinT ws) = ws
  | [], _ => rfl
  | [a], h => by
    simp only [List.all_cons, List.all_nil, Bool.and_true] at h
    obtain ⟨h1, -, h2⟩ := (wok_iff a).1 h
    exact wdsF_last a [] h2 (by simpa using h1)
  | a :: b :: l, h => by
    rw [List.all_cons, Bool.and_eq_true] at h
    obtain ⟨h1, -, h2⟩ := (wok_iff a).1 h.1
    show wdsF [] (a ++ 32 :: joinT (b :: l)) = _
    rw [wdsF_word a [] _ h2 (by simpa using h1), wdsF_join (b :: l) h.2]
    rfl
theorem wdsS_join (ws : List Wd) (h : ws.all wok = true) : wdsS (joinT ws) = ws.map bx := by unfold wdsS; rw [wdsF_join ws h]
theorem longW_join (ws : List Wd) (h : ws.all wok = true) : longW (ws.map bx) = false := by
  rw [Bool.eq_false_iff]
  intro e
  obtain ⟨x, hx, h2⟩ := List.any_eq_true.1 e
  obtain ⟨y, hy, rfl⟩ := List.mem_map.1 hx
  have := ((wok_iff y).1 (List.all_eq_true.1 h y hy)).2.1
  have h3 := of_decide_eq_true h2
  rw [bx_size] at h3
  omega
theorem join_nl : ∀ (ws : List Wd), ws.all wok = true → (10 : UInt8) ∉ joinT ws
  | [], _ => by simp [joinT]
  | [a], h => by
    simp only [List.all_cons, List.all_nil, Bool.and_true] at h
    exact fun e => (((wok_iff a).1 h).2.2 10 e).2.2.2 rfl
  | a :: b :: l, h => by
    rw [List.all_cons, Bool.and_eq_true] at h
    show (10 : UInt8) ∉ a ++ 32 :: joinT (b :: l)
    intro e
    rcases List.mem_append.1 e with e | e
    · exact (((wok_iff a).1 h.1).2.2 10 e).2.2.2 rfl
    · rcases List.mem_cons.1 e with e | e
      · cases e
      · exact join_nl (b :: l) h.2 e
theorem splB_line (c : UInt8) : ∀ (w cur rest : Wd), c ∉ w → splB c cur (w ++ c :: rest) = (cur ++ w) :: splB c [] rest
  | [], cur, rest, _ => by
    show (if c = c then _ else _) = _
    rw [if_pos rfl, List.append_nil]
  | x :: w, cur, rest, h => by
    show (if x = c then _ else splB c (cur ++ [x]) (w ++ c :: rest)) = _
    rw [if_neg (fun e => h (by simp [e])), splB_line c w (cur ++ [x]) rest (fun e => h (by simp [e]))]
    simp
/-- a line of words that may be. -/
theorem linE_join {st : RdS} {ws : List Wd} (h : ws.all wok = true) : linE st (joinT ws) = lnE st (ws.map bx) := by
  unfold linE
  rw [wdsS_join ws h, longW_join ws h, if_neg (by decide)]
theorem linV_join {st : RdS} {ws : List Wd} (h : ws.all wok = true) : linV st (joinT ws) = lnV st (ws.map bx) := by
  unfold linV
  rw [wdsS_join ws h]
end Go.Proofs.YtcmlcmokjgkciaaGreatDoor

namespace Go.Proofs.YtcmlcmokjgkciaaGreatDoor
set_option linter.unusedVariables false
set_option linter.unusedSimpArgs false
open Go.ChangeShapes Go.WideShapes Go.ChangeAt Go.RowKit Civ

theorem pkz_bd (n many : Int) (h : 0 < many) : 0 ≤ pkz n many ∧ pkz n many < many := ⟨Int.emod_nonneg _ (by omega), Int.emod_lt_of_pos _ h⟩
end Go.Proofs.YtcmlcmokjgkciaaGreatDoor
