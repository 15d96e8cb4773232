/-
  Lines about zones, plain: numbers, clocks, days, rules, eras, words, lines, sources. · A source of raw things: its text, as words of lines; how it reads. · A source of raw things: each of its lines is read. · A block that is known whole. · The laws' own sources of raw things: numbers picked, two digits, hours, days, months, years. · The laws' own Source of raw things: the walk. · What an operation of a drawn region leaves, as frg.py prints it.
-/
import Derived.Lib.ItoaMem
import Derived.RangeFuncRecord
import Derived.Lib.AppendIntMem
import Derived.Lib.ItoaLen
import Derived.Laws.Concat
import Derived.Shelf.Strings.BuilderK
import Derived.Shelf.LaysM
import Derived.Shelf.Strconv.Itoa3
import Derived.BigQuiet
import Derived.Deep.WholeRow
import Derived.Lib.IndexMore
import Derived.Test.YtbikdlcjbigafaaGreatDoorJZonB0
import Derived.Test.YtbikdlcjbigafaaGreatDoorJTreeT
import Derived.Test.YtbikdlcjbigafaaGreatDoorProg
import Derived.Test.YtbikdlcjbigafaaGreatDoorJOrdF
import Derived.Test.YtbikdlcjbigafaaGreatDoorJOrdG
namespace Go.Proofs.YtbikdlcjbigafaaGreatDoor
set_option linter.unusedVariables false
set_option linter.unusedSimpArgs false
open Go.ChangeShapes Go.WideShapes Go.ChangeAt Go.RowKit Civ

def bx (l : List UInt8) : ByteArray := ⟨l.toArray⟩
theorem bx_data (s : ByteArray) : bx s.data.toList = s := by obtain ⟨⟨l⟩⟩ := s; rfl
theorem data_bx (l : List UInt8) : (bx l).data.toList = l := rfl
theorem bx_size (l : List UInt8) : (bx l).size = l.length := rfl
theorem bx_inj {a b : List UInt8} (h : bx a = bx b) : a = b := by
  have := congrArg (fun s => s.data.toList) h
  exact this
/-- the k-th byte, as a number. -/
def byI (s : ByteArray) (k : Nat) : Int := (bl s).getD k 0
def dropB (s : ByteArray) (k : Nat) : ByteArray := bx (s.data.toList.drop k)
def takeB (s : ByteArray) (k : Nat) : ByteArray := bx (s.data.toList.take k)
/-- a year. -/
def yrS (s : ByteArray) : Int × Int := ((dcm (bl s) 9999).1, if (dcm (bl s) 9999).2 = 0 ∧ ¬ (1900 ≤ (dcm (bl s) 9999).1 ∧ (dcm (bl s) 9999).1 ≤ 2099) then 2 else (dcm (bl s) 9999).2)
/-- a day's number. -/
def dnS (s : ByteArray) : Int × Int := ((dcm (bl s) 31).1, if (dcm (bl s) 31).2 = 0 ∧ (dcm (bl s) 31).1 = 0 then 2 else (dcm (bl s) 31).2)
/-- two digits. -/
def twoB (s : ByteArray) : Bool := decide (s.size = 2) && (decide (48 ≤ byI s 0) && decide (byI s 0 ≤ 53)) && digB (byI s 1)
def twoV (s : ByteArray) : Int := 10 * (byI s 0 - 48) + (byI s 1 - 48)
/-- minutes and seconds: what is gathered; is there one that may not be? -/
def minT : List ByteArray → Int → Int → Int × Bool
  | [], _, n => (n, true)
  | x :: l, u, n => if twoB x then minT l 1 (n + u * twoV x) else (0, false)
def colS (s : ByteArray) : List ByteArray := (splB 58 [] s.data.toList).map bx
/-- hours, and perhaps minutes and seconds. -/
def hrsS (s : ByteArray) (most : Int) : Int × Int :=
  if 3 < (colS s).length then (0, 4)
  else if (dcm (bl ((colS s).headD ByteArray.empty)) 999).2 ≠ 0 then (0, (dcm (bl ((colS s).headD ByteArray.empty)) 999).2)
  else if (minT (colS s).tail 60 (3600 * (dcm (bl ((colS s).headD ByteArray.empty)) 999).1)).2 = false then (0, 4)
  else if most < (minT (colS s).tail 60 (3600 * (dcm (bl ((colS s).headD ByteArray.empty)) 999).1)).1 then (0, 2)
  else ((minT (colS s).tail 60 (3600 * (dcm (bl ((colS s).headD ByteArray.empty)) 999).1)).1, 0)
/-- ahead of the world. -/
def offS (s : ByteArray) : Int × Int :=
  if 0 < s.size ∧ byI s 0 = 45 then (-(hrsS (dropB s 1) 86400).1, (hrsS (dropB s 1) 86400).2) else hrsS s 86400
def monN : List ByteArray := [bx [74, 97, 110], bx [70, 101, 98], bx [77, 97, 114], bx [65, 112, 114], bx [77, 97, 121], bx [74, 117, 110], bx [74, 117, 108], bx [65, 117, 103], bx [83, 101, 112], bx [79, 99, 116], bx [78, 111, 118], bx [68, 101, 99]]
def wdN : List ByteArray := [bx [83, 117, 110], bx [77, 111, 110], bx [84, 117, 101], bx [87, 101, 100], bx [84, 104, 117], bx [70, 114, 105], bx [83, 97, 116]]
/-- a place in a list. -/
def plcS (l : List ByteArray) (s : ByteArray) : Int := fidx (fun x => decide (x = s)) l
def monS (s : ByteArray) : Int × Int := if plcS monN s < 0 then (0, 4) else (plcS monN s + 1, 0)
def wdS (s : ByteArray) : Int × Int := if plcS wdN s < 0 then (0, 4) else (plcS wdN s, 0)
structure DyV where
  k : Int
  a : Int
  n : Int
/-- a weekday and a number, cut at a mark. -/
def dyC (k : Int) (s : ByteArray) (i : Nat) : DyV × Int :=
  if (wdS (takeB s i)).2 ≠ 0 then (⟨0, 0, 0⟩, (wdS (takeB s i)).2) else (⟨k, (wdS (takeB s i)).1, (dnS (dropB s (i + 2))).1⟩, (dnS (dropB s (i + 2))).2)
def geS (s : ByteArray) : Int := Lib.index s.data.toList [62, 61]
def leS (s : ByteArray) : Int := Lib.index s.data.toList [60, 61]
/-- a day of a month. -/
def dyS (s : ByteArray) : DyV × Int :=
  if 4 ≤ s.size ∧ takeB s 4 = bx [108, 97, 115, 116] then (⟨2, (wdS (dropB s 4)).1, 0⟩, (wdS (dropB s 4)).2)
  else if 0 ≤ geS s then dyC 3 s (geS s).toNat
  else if 0 ≤ leS s then dyC 4 s (leS s).toNat
  else (⟨1, 0, (dnS s).1⟩, (dnS s).2)
/-- by which clock: the last letter. -/
def ckC (c : Int) : Int := if c = 119 then 0 else if c = 115 then 1 else if c = 117 then 2 else -1
/-- a time of a day: seconds, clock, what is wrong. -/
def tmS (s : ByteArray) : (Int × Int) × Int :=
  if 1 < s.size ∧ digB (byI s (s.size - 1)) = false then
    if ckC (byI s (s.size - 1)) < 0 then ((0, 0), 4)
    else (((hrsS (takeB s (s.size - 1)) 604800).1, ckC (byI s (s.size - 1))), (hrsS (takeB s (s.size - 1)) 604800).2)
  else (((hrsS s 604800).1, 0), (hrsS s 604800).2)
def wAt (w : List ByteArray) (k : Nat) : ByteArray := w.getD k ByteArray.empty
def dashS : ByteArray := bx [45]
/-- the last year of a rule. -/
def toS (w : List ByteArray) : Int × Int :=
  if wAt w 3 = bx [111, 110, 108, 121] then ((yrS (wAt w 2)).1, 0) else if wAt w 3 = bx [109, 97, 120] then (2099, 0) else yrS (wAt w 3)
/-- a rule's words: what is wrong; the rule. -/
def rulS (w : List ByteArray) : Int :=
  if w.length ≠ 10 ∨ nameS (wAt w 1) = false then 4
  else if (yrS (wAt w 2)).2 ≠ 0 then (yrS (wAt w 2)).2
  else if (toS w).2 ≠ 0 then (toS w).2
  else if (toS w).1 < (yrS (wAt w 2)).1 then 8
  else if wAt w 4 ≠ dashS then 4
  else if (monS (wAt w 5)).2 ≠ 0 then (monS (wAt w 5)).2
  else if (dyS (wAt w 6)).2 ≠ 0 then (dyS (wAt w 6)).2
  else if (tmS (wAt w 7)).2 ≠ 0 then (tmS (wAt w 7)).2
  else if (offS (wAt w 8)).2 ≠ 0 then (offS (wAt w 8)).2
  else if wAt w 9 ≠ dashS ∧ letsB (wAt w 9) = false then 4
  else 0
def rulV (w : List ByteArray) : Rul :=
  ⟨wAt w 1, (yrS (wAt w 2)).1, (toS w).1, ⟨(monS (wAt w 5)).1, (dyS (wAt w 6)).1.k, (dyS (wAt w 6)).1.a, (dyS (wAt w 6)).1.n, (tmS (wAt w 7)).1.1, (tmS (wAt w 7)).1.2⟩, (offS (wAt w 8)).1, if wAt w 9 = dashS then ByteArray.empty else wAt w 9⟩
/-- an era's words: what is wrong with the first three. -/
def er1S (w : List ByteArray) : Int :=
  if wAt w 1 = dashS then 0 else if digB (byI (wAt w 1) 0) = true ∨ byI (wAt w 1) 0 = 45 then (offS (wAt w 1)).2 else if nameS (wAt w 1) = false then 4 else 0
def erE (w : List ByteArray) : Int :=
  if w.length < 3 ∨ 7 < w.length then 4
  else if (offS (wAt w 0)).2 ≠ 0 then (offS (wAt w 0)).2
  else if er1S w ≠ 0 then er1S w
  else if fmtL (wAt w 2).data.toList = false then 4
  else if w.length = 3 then 0
  else if (yrS (wAt w 3)).2 ≠ 0 then (yrS (wAt w 3)).2
  else if 4 < w.length ∧ (monS (wAt w 4)).2 ≠ 0 then (monS (wAt w 4)).2
  else if 5 < w.length ∧ (dyS (wAt w 5)).2 ≠ 0 then (dyS (wAt w 5)).2
  else if 6 < w.length then (tmS (wAt w 6)).2
  else 0
def erSv (w : List ByteArray) : Int := if wAt w 1 = dashS then 0 else if digB (byI (wAt w 1) 0) = true ∨ byI (wAt w 1) 0 = 45 then (offS (wAt w 1)).1 else 0
def erRl (w : List ByteArray) : ByteArray := if wAt w 1 = dashS then ByteArray.empty else if digB (byI (wAt w 1) 0) = true ∨ byI (wAt w 1) 0 = 45 then ByteArray.empty else wAt w 1
def erUn (w : List ByteArray) : Mom :=
  if w.length = 3 then ⟨0, 0, 0, 0, 0, 0⟩
  else ⟨if 4 < w.length then (monS (wAt w 4)).1 else 1, if 5 < w.length then (dyS (wAt w 5)).1.k else 1, if 5 < w.length then (dyS (wAt w 5)).1.a else 0, if 5 < w.length then (dyS (wAt w 5)).1.n else 1,
    if 6 < w.length then (tmS (wAt w 6)).1.1 else 0, if 6 < w.length then (tmS (wAt w 6)).1.2 else 0⟩
def erV (w : List ByteArray) : Ero :=
  ⟨(offS (wAt w 0)).1, erRl w, erSv w, wAt w 2, decide (w.length ≠ 3), if w.length = 3 then 0 else (yrS (wAt w 3)).1, erUn w⟩
/-- words, up to a mark; cur is what the first one has so far. -/
def wdsF : List UInt8 → List UInt8 → List (List UInt8)
  | cur, [] => if cur = [] then [] else [cur]
  | cur, c :: l => if c = 35 then (if cur = [] then [] else [cur]) else if c = 32 ∨ c = 9 then (if cur = [] then wdsF [] l else cur :: wdsF [] l) else wdsF (cur ++ [c]) l
def wdsS (l : List UInt8) : List ByteArray := (wdsF [] l).map bx
def longW (w : List ByteArray) : Bool := w.any fun x => decide (20 < x.size)
/-- what has been read: a source; has the last zone an era more? -/
structure RdS where
  s : Src
  op : Bool
def addE (zs : List Zon) (x : Ero) : List Zon := match zs.getLast? with
  | some z => zs.dropLast ++ [⟨z.nm, z.eras ++ [x]⟩]
  | none => zs
def lastN (zs : List Zon) : Nat := match zs.getLast? with
  | some z => z.eras.length
  | none => 0
def ruleW : ByteArray := bx [82, 117, 108, 101]
def zoneW : ByteArray := bx [90, 111, 110, 101]
def linkW : ByteArray := bx [76, 105, 110, 107]
/-- a line's words: what is wrong. -/
def lnE (st : RdS) (w : List ByteArray) : Int :=
  if w.length = 0 then 0
  else if st.op = true then (if erE w ≠ 0 then erE w else if 20 ≤ lastN st.s.zones then 1 else 0)
  else if wAt w 0 = ruleW then rulS w
  else if wAt w 0 = zoneW then (if w.length < 2 ∨ nameS (wAt w 1) = false then 4 else erE (w.drop 2))
  else if wAt w 0 = linkW then (if w.length ≠ 3 ∨ nameS (wAt w 1) = false ∨ nameS (wAt w 2) = false then 4 else 0)
  else 4
/-- a line's words: what has been read behind it. -/
def lnV (st : RdS) (w : List ByteArray) : RdS :=
  if w.length = 0 then st
  else if st.op = true then ⟨⟨st.s.rules, addE st.s.zones (erV w), st.s.links⟩, (erV w).en⟩
  else if wAt w 0 = ruleW then ⟨⟨st.s.rules ++ [rulV w], st.s.zones, st.s.links⟩, false⟩
  else if wAt w 0 = zoneW then ⟨⟨st.s.rules, st.s.zones ++ [⟨wAt w 1, [erV (w.drop 2)]⟩], st.s.links⟩, (erV (w.drop 2)).en⟩
  else ⟨⟨st.s.rules, st.s.zones, st.s.links ++ [⟨wAt w 1, wAt w 2⟩]⟩, false⟩
/-- a line. -/
def linE (st : RdS) (l : List UInt8) : Int := if longW (wdsS l) = true then 1 else lnE st (wdsS l)
def linV (st : RdS) (l : List UInt8) : RdS := lnV st (wdsS l)
def src0 : Src := ⟨[], [], []⟩
/-- lines: what is wrong (the line, from i + 1 on), or what has been read. -/
def linsF : RdS → Nat → List (List UInt8) → (RdS × Nat) × Int
  | st, i, [] => ((st, i), 0)
  | st, i, l :: ls => if linE st l ≠ 0 then ((st, i + 1), linE st l) else linsF (linV st l) (i + 1) ls
def linesS (s : ByteArray) : List (List UInt8) := splB 10 [] s.data.toList
def rd0 : RdS := ⟨src0, false⟩
/-- a source that is read: the source, the line, what is wrong. -/
def srcV (s : ByteArray) : Src :=
  if 8000 < s.size ∨ 200 < (linesS s).length ∨ (linsF rd0 0 (linesS s)).2 ≠ 0 ∨ (linsF rd0 0 (linesS s)).1.1.op = true then src0 else (linsF rd0 0 (linesS s)).1.1.s
def srcL (s : ByteArray) : Int :=
  if 8000 < s.size ∨ 200 < (linesS s).length then 0 else if (linsF rd0 0 (linesS s)).2 ≠ 0 then ((linsF rd0 0 (linesS s)).1.2 : Int) else if (linsF rd0 0 (linesS s)).1.1.op = true then ((linesS s).length : Int) else 0
def srcX (s : ByteArray) : Int :=
  if 8000 < s.size ∨ 200 < (linesS s).length then 1 else if (linsF rd0 0 (linesS s)).2 ≠ 0 then (linsF rd0 0 (linesS s)).2 else if (linsF rd0 0 (linesS s)).1.1.op = true then 5 else 0
end Go.Proofs.YtbikdlcjbigafaaGreatDoor

namespace Go.Proofs.YtbikdlcjbigafaaGreatDoor
set_option linter.unusedVariables false
set_option linter.unusedSimpArgs false
open Go.ChangeShapes Go.WideShapes Go.ChangeAt Go.RowKit Civ

structure Rz where
  kd : Int
  ra : Int
  rb : Int
  rc : Int
abbrev Wd := List UInt8
def pkz (n many : Int) : Int := (if n < 0 then -(n + 1) else n) % many
def zonWd : Wd := [90, 111, 110, 101]
/-- words, with blanks between them. -/
def joinT : List Wd → Wd
  | [] => []
  | [a] => a
  | a :: b :: l => a ++ 32 :: joinT (b :: l)
/-- a word that may be. -/
def wok (w : Wd) : Bool := decide (w ≠ []) && (decide (w.length ≤ 20) && w.all fun c => decide (c ≠ 32) && decide (c ≠ 9) && decide (c ≠ 35) && decide (c ≠ 10))
theorem wok_iff (w : Wd) : wok w = true ↔ w ≠ [] ∧ w.length ≤ 20 ∧ ∀ c ∈ w, c ≠ 32 ∧ c ≠ 9 ∧ c ≠ 35 ∧ c ≠ 10 := by
  unfold wok
  simp only [Bool.and_eq_true, decide_eq_true_eq, List.all_eq_true, and_assoc]
theorem wdsF_word : ∀ (w cur : Wd) (rest : Wd), (∀ c ∈ w, c ≠ 32 ∧ c ≠ 9 ∧ c ≠ 35 ∧ c ≠ 10) → cur ++ w ≠ [] → wdsF cur (w ++ 32 :: rest) = (cur ++ w) :: wdsF [] rest
  | [], cur, rest, _, hn => by
    rw [List.append_nil] at hn ⊢
    show (if (32 : UInt8) = 35 then _ else if (32 : UInt8) = 32 ∨ _ then (if cur = [] then _ else _) else _) = _
    rw [if_neg (by decide), if_pos (.inl rfl), if_neg hn]
  | c :: w, cur, rest, h, hn => by
    obtain ⟨h1, h2, h3, -⟩ := h c (by simp)
    show (if c = 35 then _ else if c = 32 ∨ c = 9 then _ else wdsF (cur ++ [c]) (w ++ 32 :: rest)) = _
    rw [if_neg h3, if_neg (by rintro (e | e); exact h1 e; exact h2 e), wdsF_word w (cur ++ [c]) rest (fun c hc => h c (by simp [hc])) (by simp)]
    simp
theorem wdsF_last : ∀ (w cur : Wd), (∀ c ∈ w, c ≠ 32 ∧ c ≠ 9 ∧ c ≠ 35 ∧ c ≠ 10) → cur ++ w ≠ [] → wdsF cur w = [cur ++ w]
  | [], cur, _, hn => by
    rw [List.append_nil] at hn ⊢
    show (if cur = [] then _ else _) = _
    rw [if_neg hn]
  | c :: w, cur, h, hn => by
    obtain ⟨h1, h2, h3, -⟩ := h c (by simp)
    show (if c = 35 then _ else if c = 32 ∨ c = 9 then _ else wdsF (cur ++ [c]) w) = _
    rw [if_neg h3, if_neg (by rintro (e | e); exact h1 e; exact h2 e), wdsF_last w (cur ++ [c]) (fun c hc => h c (by simp [hc])) (by simp)]
    simp
theorem wdsF_join : ∀ (ws : List Wd), ws.all wok = true → wdsF [] (joinT ws) = ws
  | [], _ => rfl
  | [a], h => by
    simp only [List.all_cons, List.all_nil, Bool.and_true] at h
    obtain ⟨h1, -, h2⟩ := (wok_iff a).1 h
    exact wdsF_last a [] h2 (by simpa using h1)
  | a :: b :: l, h => by
    rw [List.all_cons, Bool.and_eq_true] at h
    obtain ⟨h1, -, h2⟩ := (wok_iff a).1 h.1
    show wdsF [] (a ++ 32 :: joinT (b :: l)) = _
    rw [wdsF_word a [] _ h2 (by simpa using h1), wdsF_join (b :: l) h.2]
    rfl
theorem wdsS_join (ws : List Wd) (h : ws.all wok = true) : wdsS (joinT ws) = ws.map bx := by unfold wdsS; rw [wdsF_join ws h]
theorem longW_join (ws : List Wd) (h : ws.all wok = true) : longW (ws.map bx) = false := by
  rw [Bool.eq_false_iff]
  intro e
  obtain ⟨x, hx, h2⟩ := List.any_eq_true.1 e
  obtain ⟨y, hy, rfl⟩ := List.mem_map.1 hx
  have := ((wok_iff y).1 (List.all_eq_true.1 h y hy)).2.1
  have h3 := of_decide_eq_true h2
  rw [bx_size] at h3
  omega
theorem join_nl : ∀ (ws : List Wd), ws.all wok = true → (10 : UInt8) ∉ joinT ws
  | [], _ => by simp [joinT]
  | [a], h => by
    simp only [List.all_cons, List.all_nil, Bool.and_true] at h
    exact fun e => (((wok_iff a).1 h).2.2 10 e).2.2.2 rfl
  | a :: b :: l, h => by
    rw [List.all_cons, Bool.and_eq_true] at h
    show (10 : UInt8) ∉ a ++ 32 :: joinT (b :: l)
    intro e
    rcases List.mem_append.1 e with e | e
    · exact (((wok_iff a).1 h.1).2.2 10 e).2.2.2 rfl
    · rcases List.mem_cons.1 e with e | e
      · cases e
      · exact join_nl (b :: l) h.2 e
/-- a line of words that may be. -/
theorem linE_join {st : RdS} {ws : List Wd} (h : ws.all wok = true) : linE st (joinT ws) = lnE st (ws.map bx) := by
  unfold linE
  rw [wdsS_join ws h, longW_join ws h, if_neg (by decide)]
theorem linV_join {st : RdS} {ws : List Wd} (h : ws.all wok = true) : linV st (joinT ws) = lnV st (ws.map bx) := by
  unfold linV
  rw [wdsS_join ws h]
end Go.Proofs.YtbikdlcjbigafaaGreatDoor

namespace Go.Proofs.YtbikdlcjbigafaaGreatDoor
set_option linter.unusedVariables false
set_option linter.unusedSimpArgs false
open Go.ChangeShapes Go.WideShapes Go.ChangeAt Go.RowKit Civ

theorem pkz_bd (n many : Int) (h : 0 < many) : 0 ≤ pkz n many ∧ pkz n many < many := ⟨Int.emod_nonneg _ (by omega), Int.emod_lt_of_pos _ h⟩
theorem nat_of {a m : Int} (h : 0 ≤ a ∧ a < m) : ∃ k : Nat, a = (k : Int) ∧ k < m.toNat := ⟨a.toNat, by omega, by omega⟩
end Go.Proofs.YtbikdlcjbigafaaGreatDoor

namespace Go.Proofs.YtbikdlcjbigafaaGreatDoor
set_option linter.unusedVariables false
set_option linter.unusedSimpArgs false
open Go.ChangeShapes Go.WideShapes Go.ChangeAt Go.RowKit

def BxO (W : World) (b : Nat) (cs : Array Value) (t : TypeId) : Prop := W.heap[b]? = some (.cells cs t (0, 0))
theorem BxO.lt {W : World} {b : Nat} {cs : Array Value} {t : TypeId} (h : BxO W b cs t) : b < W.heap.size := (Array.getElem?_eq_some_iff.1 h).1
theorem BxO.cell {W : World} {b : Nat} {cs : Array Value} {t : TypeId} (h : BxO W b cs t) (i : Nat) : W.cell? ⟨b, i, none⟩ = cs[i]? := by
  unfold World.cell?
  rw [show W.heap[b]? = _ from h]
  rfl
theorem BxO.frozen {W : World} {b : Nat} {cs : Array Value} {t : TypeId} (h : BxO W b cs t) (i : Nat) : W.frozen? ⟨b, i, none⟩ = false := by simp [World.frozen?, show W.heap[b]? = _ from h]
theorem BxO.kept {W W' : World} {b : Nat} {cs : Array Value} {t : TypeId} {row : Option Nat} (h : BxO W b cs t) (hg : W.grownBy W' row) (hne : some b ≠ row) : BxO W' b cs t := (hg.block b h.lt hne).trans h
theorem BxO.new (W : World) (cs : Array Value) (t : TypeId) : BxO (W.alloc (.cells cs t)) W.heap.size cs t := World.alloc_heap_new W _
theorem BxO.alloc {W : World} {b : Nat} {cs : Array Value} {t : TypeId} (h : BxO W b cs t) (o : Obj) : BxO (W.alloc o) b cs t := h.kept (World.grownBy_alloc W o none) (by simp)
theorem BxO.other {W : World} {b : Nat} {cs : Array Value} {t : TypeId} (h : BxO W b cs t) {b' : Nat} (hne : b ≠ b') (i : Nat) (u : Value) : BxO (W.setCell ⟨b', i, none⟩ u) b cs t := (Below.heap_setCell _ _ _ _ hne).trans h
theorem BxO.drew {W : World} {b : Nat} {cs : Array Value} {t : TypeId} (h : BxO W b cs t) : BxO W.drew b cs t := h
theorem BxO.set0 {W : World} {b : Nat} {v : Value} {t : TypeId} (h : BxO W b #[v] t) (u : Value) : BxO (W.setCell ⟨b, 0, none⟩ u) b #[u] t := by
  simp [BxO, World.setCell, Array.getElem?_modify, show W.heap[b]? = _ from h]
theorem BxO.set3 {W : World} {b : Nat} {u0 u1 u2 : Value} {t : TypeId} (h : BxO W b #[u0, u1, u2] t) (v0 v1 v2 : Value) : BxO (((W.setCell ⟨b, 0, none⟩ v0).setCell ⟨b, 1, none⟩ v1).setCell ⟨b, 2, none⟩ v2) b #[v0, v1, v2] t := by
  simp [BxO, World.setCell, Array.getElem?_modify, show W.heap[b]? = _ from h]
theorem BxO.setAt2 {W : World} {b : Nat} {u0 u1 u2 : Value} {t : TypeId} (h : BxO W b #[u0, u1, u2] t) (v2 : Value) : BxO (W.setCell ⟨b, 2, none⟩ v2) b #[u0, u1, v2] t := by
  simp [BxO, World.setCell, Array.getElem?_modify, show W.heap[b]? = _ from h]
end Go.Proofs.YtbikdlcjbigafaaGreatDoor

namespace Go.Proofs.YtbikdlcjbigafaaGreatDoor
set_option linter.unusedVariables false
set_option linter.unusedSimpArgs false
open Go.ChangeShapes Go.WideShapes Go.ChangeAt Go.RowKit Civ

def I6 (n : Int) : Prop := -9223372036854775808 ≤ n ∧ n ≤ 9223372036854775807
/-- the table of powers of ten. -/
def PwT (w : World) : Prop := Lib.TabIs Tryz.prog w "internal/strconv.uint64pow10" .u64 Lib.pow10Tab
theorem PwT.below {w w' : World} (h : PwT w) (hb : Below w.heap.size w w') : PwT w' := Lib.tabBelow_of_tabIs h w' hb
theorem pick_s (n many : Int) (w : World) (hn : I6 n) (h1 : 1 ≤ many) (h2 : many ≤ 9000000000) :
    Calls Tryz.prog 12 #[.int .i64 n, .int .i64 many] w fun e w' => e = .returned (.int .i64 (pkz n many)) ∧ w = w' := by
  refine picked_v n many w ?_ h1 h2
  have h3 := hn.1
  have h4 := hn.2
  have e1 : IntKind.i64.min = -9223372036854775808 := rfl
  have e2 : IntKind.i64.max = 9223372036854775807 := rfl
  simp [Lit.wf, e1, e2]
  omega
theorem I6.tdiv {n k : Int} (h : I6 n) (hk : 0 < k) : I6 (n.tdiv k) := by
  obtain ⟨h1, h2⟩ := h
  rcases Int.le_total 0 n with h0 | h0
  · rw [Int.tdiv_eq_ediv_of_nonneg h0]
    have a := Int.ediv_nonneg h0 (Int.le_of_lt hk)
    have b := Int.ediv_le_self k h0
    exact ⟨by omega, by omega⟩
  · have e : n = -(-n) := by omega
    rw [e, Int.neg_tdiv, Int.tdiv_eq_ediv_of_nonneg (by omega)]
    have a := Int.ediv_nonneg (show 0 ≤ -n by omega) (Int.le_of_lt hk)
    have b := Int.ediv_le_self k (show 0 ≤ -n by omega)
    exact ⟨by omega, by omega⟩
def rzA (x : Rz) : Array Value := #[.int .i64 x.kd, .int .i64 x.ra, .int .i64 x.rb, .int .i64 x.rc]
structure RzI (x : Rz) : Prop where
  kd : I6 x.kd
  ra : I6 x.ra
  rb : I6 x.rb
  rc : I6 x.rc
end Go.Proofs.YtbikdlcjbigafaaGreatDoor

namespace Go.Proofs.YtbikdlcjbigafaaGreatDoor
set_option linter.unusedVariables false
set_option linter.unusedSimpArgs false
open Go.ChangeShapes Go.WideShapes Go.ChangeAt Go.RowKit Civ

theorem box_at {W w : World} {b : Nat} {cs : Array Value} {t : TypeId} (h : BxO W b cs t) (hB : Below W.heap.size W w) : BxO w b cs t := (hB.block _ h.lt).trans h
theorem OpOk.val {P : Program} {o : Oper} {ev : Operand → Value} {w w' : World} {v : Value} {R : Value → World → Prop} (h : (execOp ev o).run P w = .ok (.value v) w') (hR : R v w') : OpOk P o ev w R := by
  unfold OpOk; rw [h]; exact hR
theorem OpOk.call {P : Program} {o : Oper} {ev : Operand → Value} {w w' : World} {f : FuncId} {args : Array Value} {R : Value → World → Prop} (h : (execOp ev o).run P w = .ok (.enter f args) w') (hR : Calls P f args w' fun e w'' => ∃ v, e = .returned v ∧ R v w'') : OpOk P o ev w R := by
  unfold OpOk; rw [h]; exact hR
/-- the raw things lie so. -/
def RRz (cs : List Value) (x : Rz) : Prop := cs = [.int .i64 x.kd, .int .i64 x.ra, .int .i64 x.rb, .int .i64 x.rc] ∧ RzI x
theorem rz_at {w : World} {aa : Option Addr} {n ca : Nat} {xs : List Rz} (h : SlAt w 4 RRz (.slice aa n ca) xs) (k : Nat) (hk : k < xs.length) :
    ∃ b off, aa = some ⟨b, off, none⟩ ∧ b < w.heap.size ∧ RzI xs[k] ∧ w.cell? ⟨b, off + k * 4, none⟩ = some (.int .i64 xs[k].kd) ∧ w.cell? ⟨b, off + k * 4 + 1, none⟩ = some (.int .i64 xs[k].ra) ∧ w.cell? ⟨b, off + k * 4 + 2, none⟩ = some (.int .i64 xs[k].rb) ∧ w.cell? ⟨b, off + k * 4 + 3, none⟩ = some (.int .i64 xs[k].rc) := by
  rcases h with ⟨a, c, e, rfl⟩ | ⟨b, off, cap, e, h0, h1, h2, h3, h4⟩
  · simp at hk
  · simp only [Value.slice.injEq] at e
    obtain ⟨rfl, -, -⟩ := e
    obtain ⟨cs, c1, ⟨rfl, c4⟩, c3⟩ := h4 k hk
    exact ⟨b, off, rfl, h3, c4, c3 0 (by omega), c3 1 (by omega), c3 2 (by omega), c3 3 (by omega)⟩
theorem I6.zero : I6 0 := ⟨by decide, by decide⟩
end Go.Proofs.YtbikdlcjbigafaaGreatDoor

namespace Go.Proofs.YtbikdlcjbigafaaGreatDoor
set_option linter.unusedVariables false
set_option linter.unusedSimpArgs false
open Go.ChangeShapes Go.WideShapes Go.ChangeAt Go.RowKit Civ

/-- what an operation leaves: a value; a row of its own; a place in it. -/
inductive Pe where
  | any
  | eq (v : Value)
  | row (cs : Array Value) (t : TypeId) (n : Nat)
  | ptr (cs : Array Value) (t : TypeId) (k : Nat)
def Pe.is : Pe → Value → World → Prop
  | .any, _, _ => True
  | .eq u, v, _ => v = u
  | .row cs t n, v, w => ∃ g, v = .slice (some ⟨g, 0, none⟩) n n ∧ BxO w g cs t
  | .ptr cs t k, v, w => ∃ g, v = .pointer (some ⟨g, k, none⟩) ∧ BxO w g cs t
theorem Pe.stb {p : Pe} {v : Value} {w w' : World} (h : p.is v w) (hb : Below w.heap.size w w') : p.is v w' := by
  cases p with
  | any => trivial
  | eq u => exact h
  | row cs t n => obtain ⟨g, h1, h2⟩ := h; exact ⟨g, h1, box_at h2 hb⟩
  | ptr cs t k => obtain ⟨g, h1, h2⟩ := h; exact ⟨g, h1, box_at h2 hb⟩
end Go.Proofs.YtbikdlcjbigafaaGreatDoor
