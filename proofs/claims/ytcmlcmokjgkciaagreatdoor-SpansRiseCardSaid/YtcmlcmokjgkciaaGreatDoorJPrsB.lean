/-
  sundialref.decimal: plain; walked. · Lines about zones, plain: numbers, clocks, days, rules, eras, words, lines, sources. · What the row's condition on the listed variables gives the walks: tables of strings, the table of powers of ten.
-/
import Derived.LaidMore
import Derived.Stop.Joined
import Derived.Below
import Derived.Carry
import Derived.Lib.LaidTab
import Derived.Test.YtcmlcmokjgkciaaGreatDoorJSrcT
import Derived.Test.YtcmlcmokjgkciaaGreatDoorJZonB0
import Derived.Test.YtcmlcmokjgkciaaGreatDoorJTreeT
import Derived.Test.YtcmlcmokjgkciaaGreatDoorJBase
namespace Go.Proofs.YtcmlcmokjgkciaaGreatDoor
set_option linter.unusedVariables false
set_option linter.unusedSimpArgs false
open Go.ChangeShapes Go.WideShapes Go.ChangeAt Go.RowKit

def dval (l : List Int) : Int := l.foldl (fun n b => 10 * n + (b - 48)) 0
theorem dval_snoc (l : List Int) (b : Int) : dval (l ++ [b]) = 10 * dval l + (b - 48) := by unfold dval; rw [List.foldl_append]; rfl
theorem dval_lt : ∀ (j : Nat) (l : List Int), l.length ≤ j → (∀ b ∈ l, 48 ≤ b ∧ b ≤ 57) → 0 ≤ dval l ∧ dval l < 10 ^ j
  | 0, l, h, _ => by
    have : l = [] := by cases l <;> simp_all
    subst this
    decide
  | j + 1, l, h, hd => by
    rcases List.eq_nil_or_concat l with rfl | ⟨r, b, rfl⟩
    · refine ⟨by decide, ?_⟩
      show (0 : Int) < 10 ^ (j + 1)
      exact Int.pow_pos (by decide)
    · rw [List.concat_eq_append] at h hd ⊢
      rw [dval_snoc]
      have h1 := dval_lt j r (by simp at h; omega) (fun x hx => hd x (by simp [hx]))
      have h2 := hd b (by simp)
      have h3 : (10 : Int) ^ (j + 1) = 10 * 10 ^ j := by rw [Int.pow_succ, Int.mul_comm]
      omega
def dcmBad (l : List Int) : Bool := !(decide (1 ≤ (l.length : Int) ∧ (l.length : Int) ≤ 6)) || (!(l.all digB) || (decide (1 < l.length) && (l.headD 0 == 48)))
def dcm (l : List Int) (most : Int) : Int × Int := if dcmBad l then (0, 4) else if most < dval l then (0, 2) else (dval l, 0)
theorem digB_iff (x : Int) : digB x = true ↔ 48 ≤ x ∧ x ≤ 57 := by unfold digB; simp
end Go.Proofs.YtcmlcmokjgkciaaGreatDoor

namespace Go.Proofs.YtcmlcmokjgkciaaGreatDoor
set_option linter.unusedVariables false
set_option linter.unusedSimpArgs false
open Go.ChangeShapes Go.WideShapes Go.ChangeAt Go.RowKit Civ

def bx (l : List UInt8) : ByteArray := ⟨l.toArray⟩
theorem bx_data (s : ByteArray) : bx s.data.toList = s := by obtain ⟨⟨l⟩⟩ := s; rfl
theorem data_bx (l : List UInt8) : (bx l).data.toList = l := rfl
theorem bx_size (l : List UInt8) : (bx l).size = l.length := rfl
theorem bx_inj {a b : List UInt8} (h : bx a = bx b) : a = b := by
  have := congrArg (fun s => s.data.toList) h
  exact this
/-- the k-th byte, as a number. -/
def byI (s : ByteArray) (k : Nat) : Int := (bl s).getD k 0
def dropB (s : ByteArray) (k : Nat) : ByteArray := bx (s.data.toList.drop k)
def takeB (s : ByteArray) (k : Nat) : ByteArray := bx (s.data.toList.take k)
/-- a year. -/
def yrS (s : ByteArray) : Int × Int := ((dcm (bl s) 9999).1, if (dcm (bl s) 9999).2 = 0 ∧ ¬ (1900 ≤ (dcm (bl s) 9999).1 ∧ (dcm (bl s) 9999).1 ≤ 2099) then 2 else (dcm (bl s) 9999).2)
/-- a day's number. -/
def dnS (s : ByteArray) : Int × Int := ((dcm (bl s) 31).1, if (dcm (bl s) 31).2 = 0 ∧ (dcm (bl s) 31).1 = 0 then 2 else (dcm (bl s) 31).2)
/-- two digits. -/
def twoB (s : ByteArray) : Bool := decide (s.size = 2) && (decide (48 ≤ byI s 0) && decide (byI s 0 ≤ 53)) && digB (byI s 1)
def twoV (s : ByteArray) : Int := 10 * (byI s 0 - 48) + (byI s 1 - 48)
/-- minutes and seconds: what is gathered; is there one that may not be? -/
def minT : List ByteArray → Int → Int → Int × Bool
  | [], _, n => (n, true)
  | x :: l, u, n => if twoB x then minT l 1 (n + u * twoV x) else (0, false)
def colS (s : ByteArray) : List ByteArray := (splB 58 [] s.data.toList).map bx
/-- hours, and perhaps minutes and seconds. -/
def hrsS (s : ByteArray) (most : Int) : Int × Int :=
  if 3 < (colS s).length then (0, 4)
  else if (dcm (bl ((colS s).headD ByteArray.empty)) 999).2 ≠ 0 then (0, (dcm (bl ((colS s).headD ByteArray.empty)) 999).2)
  else if (minT (colS s).tail 60 (3600 * (dcm (bl ((colS s).headD ByteArray.empty)) 999).1)).2 = false then (0, 4)
  else if most < (minT (colS s).tail 60 (3600 * (dcm (bl ((colS s).headD ByteArray.empty)) 999).1)).1 then (0, 2)
  else ((minT (colS s).tail 60 (3600 * (dcm (bl ((colS s).headD ByteArray.empty)) 999).1)).1, 0)
/-- ahead of the world. -/
def offS (s : ByteArray) : Int × Int :=
  if 0 < s.size ∧ byI s 0 = 45 then (-(hrsS (dropB s 1) 86400).1, (hrsS (dropB s 1) 86400).2) else hrsS s 86400
def monN : List ByteArray := [bx [74, 97, 110], bx [70, 101, 98], bx [77, 97, 114], bx [65, 112, 114], bx [77, 97, 121], bx [74, 117, 110], bx [74, 117, 108], bx [65, 117, 103], bx [83, 101, 112], bx [79, 99, 116], bx [78, 111, 118], bx [68, 101, 99]]
def wdN : List ByteArray := [bx [83, 117, 110], bx [77, 111, 110], bx [84, 117, 101], bx [87, 101, 100], bx [84, 104, 117], bx [70, 114, 105], bx [83, 97, 116]]
/-- a place in a list. -/
def plcS (l : List ByteArray) (s : ByteArray) : Int := fidx (fun x => decide (x = s)) l
def monS (s : ByteArray) : Int × Int := if plcS monN s < 0 then (0, 4) else (plcS monN s + 1, 0)
def wdS (s : ByteArray) : Int × Int := if plcS wdN s < 0 then (0, 4) else (plcS wdN s, 0)
structure DyV where
  k : Int
  a : Int
  n : Int
/-- a weekday and a number, cut at a mark. -/
def dyC (k : Int) (s : ByteArray) (i : Nat) : DyV × Int :=
  if (wdS (takeB s i)).2 ≠ 0 then (⟨0, 0, 0⟩, (wdS (takeB s i)).2) else (⟨k, (wdS (takeB s i)).1, (dnS (dropB s (i + 2))).1⟩, (dnS (dropB s (i + 2))).2)
def geS (s : ByteArray) : Int := Lib.index s.data.toList [62, 61]
def leS (s : ByteArray) : Int := Lib.index s.data.toList [60, 61]
/-- a day of a month. -/
def dyS (s : ByteArray) : DyV × Int :=
  if 4 ≤ s.size ∧ takeB s 4 = bx [108, 97, 115, 116] then (⟨2, (wdS (dropB s 4)).1, 0⟩, (wdS (dropB s 4)).2)
  else if 0 ≤ geS s then dyC 3 s (geS s).toNat
  else if 0 ≤ leS s then dyC 4 s (leS s).toNat
  else (⟨1, 0, (dnS s).1⟩, (dnS s).2)
/-- by which clock: the last letter. -/
def ckC (c : Int) : Int := if c = 119 then 0 else if c = 115 then 1 else if c = 117 then 2 else -1
/-- a time of a day: seconds, clock, what is wrong. -/
def tmS (s : ByteArray) : (Int × Int) × Int :=
  if 1 < s.size ∧ digB (byI s (s.size - 1)) = false then
    if ckC (byI s (s.size - 1)) < 0 then ((0, 0), 4)
    else (((hrsS (takeB s (s.size - 1)) 604800).1, ckC (byI s (s.size - 1))), (hrsS (takeB s (s.size - 1)) 604800).2)
  else (((hrsS s 604800).1, 0), (hrsS s 604800).2)
def wAt (w : List ByteArray) (k : Nat) : ByteArray := w.getD k ByteArray.empty
def dashS : ByteArray := bx [45]
/-- the last year of a rule. -/
def toS (w : List ByteArray) : Int × Int :=
  if wAt w 3 = bx [111, 110, 108, 121] then ((yrS (wAt w 2)).1, 0) else if wAt w 3 = bx [109, 97, 120] then (2099, 0) else yrS (wAt w 3)
/-- a rule's words: what is wrong; the rule. -/
def rulS (w : List ByteArray) : Int :=
  if w.length ≠ 10 ∨ nameS (wAt w 1) = false then 4
  else if (yrS (wAt w 2)).2 ≠ 0 then (yrS (wAt w 2)).2
  else if (toS w).2 ≠ 0 then (toS w).2
  else if (toS w).1 < (yrS (wAt w 2)).1 then 8
  else if wAt w 4 ≠ dashS then 4
  else if (monS (wAt w 5)).2 ≠ 0 then (monS (wAt w 5)).2
  else if (dyS (wAt w 6)).2 ≠ 0 then (dyS (wAt w 6)).2
  else if (tmS (wAt w 7)).2 ≠ 0 then (tmS (wAt w 7)).2
  else if (offS (wAt w 8)).2 ≠ 0 then (offS (wAt w 8)).2
  else if wAt w 9 ≠ dashS ∧ letsB (wAt w 9) = false then 4
  else 0
def rulV (w : List ByteArray) : Rul :=
  ⟨wAt w 1, (yrS (wAt w 2)).1, (toS w).1, ⟨(monS (wAt w 5)).1, (dyS (wAt w 6)).1.k, (dyS (wAt w 6)).1.a, (dyS (wAt w 6)).1.n, (tmS (wAt w 7)).1.1, (tmS (wAt w 7)).1.2⟩, (offS (wAt w 8)).1, if wAt w 9 = dashS then ByteArray.empty else wAt w 9⟩
/-- an era's words: what is wrong with the first three. -/
def er1S (w : List ByteArray) : Int :=
  if wAt w 1 = dashS then 0 else if digB (byI (wAt w 1) 0) = true ∨ byI (wAt w 1) 0 = 45 then (offS (wAt w 1)).2 else if nameS (wAt w 1) = false then 4 else 0
def erE (w : List ByteArray) : Int :=
  if w.length < 3 ∨ 7 < w.length then 4
  else if (offS (wAt w 0)).2 ≠ 0 then (offS (wAt w 0)).2
  else if er1S w ≠ 0 then er1S w
  else if fmtL (wAt w 2).data.toList = false then 4
  else if w.length = 3 then 0
  else if (yrS (wAt w 3)).2 ≠ 0 then (yrS (wAt w 3)).2
  else if 4 < w.length ∧ (monS (wAt w 4)).2 ≠ 0 then (monS (wAt w 4)).2
  else if 5 < w.length ∧ (dyS (wAt w 5)).2 ≠ 0 then (dyS (wAt w 5)).2
  else if 6 < w.length then (tmS (wAt w 6)).2
  else 0
def erSv (w : List ByteArray) : Int := if wAt w 1 = dashS then 0 else if digB (byI (wAt w 1) 0) = true ∨ byI (wAt w 1) 0 = 45 then (offS (wAt w 1)).1 else 0
def erRl (w : List ByteArray) : ByteArray := if wAt w 1 = dashS then ByteArray.empty else if digB (byI (wAt w 1) 0) = true ∨ byI (wAt w 1) 0 = 45 then ByteArray.empty else wAt w 1
def erUn (w : List ByteArray) : Mom :=
  if w.length = 3 then ⟨0, 0, 0, 0, 0, 0⟩
  else ⟨if 4 < w.length then (monS (wAt w 4)).1 else 1, if 5 < w.length then (dyS (wAt w 5)).1.k else 1, if 5 < w.length then (dyS (wAt w 5)).1.a else 0, if 5 < w.length then (dyS (wAt w 5)).1.n else 1,
    if 6 < w.length then (tmS (wAt w 6)).1.1 else 0, if 6 < w.length then (tmS (wAt w 6)).1.2 else 0⟩
def erV (w : List ByteArray) : Ero :=
  ⟨(offS (wAt w 0)).1, erRl w, erSv w, wAt w 2, decide (w.length ≠ 3), if w.length = 3 then 0 else (yrS (wAt w 3)).1, erUn w⟩
/-- words, up to a mark; cur is what the first one has so far. -/
def wdsF : List UInt8 → List UInt8 → List (List UInt8)
  | cur, [] => if cur = [] then [] else [cur]
  | cur, c :: l => if c = 35 then (if cur = [] then [] else [cur]) else if c = 32 ∨ c = 9 then (if cur = [] then wdsF [] l else cur :: wdsF [] l) else wdsF (cur ++ [c]) l
def wdsS (l : List UInt8) : List ByteArray := (wdsF [] l).map bx
def longW (w : List ByteArray) : Bool := w.any fun x => decide (20 < x.size)
/-- what has been read: a source; has the last zone an era more? -/
structure RdS where
  s : Src
  op : Bool
def addE (zs : List Zon) (x : Ero) : List Zon := match zs.getLast? with
  | some z => zs.dropLast ++ [⟨z.nm, z.eras ++ [x]⟩]
  | none => zs
def lastN (zs : List Zon) : Nat := match zs.getLast? with
  | some z => z.eras.length
  | none => 0
def ruleW : ByteArray := bx [82, 117, 108, 101]
def zoneW : ByteArray := bx [90, 111, 110, 101]
def linkW : ByteArray := bx [76, 105, 110, 107]
/-- a line's words: what is wrong. -/
def lnE (st : RdS) (w : List ByteArray) : Int :=
  if w.length = 0 then 0
  else if st.op = true then (if erE w ≠ 0 then erE w else if 20 ≤ lastN st.s.zones then 1 else 0)
  else if wAt w 0 = ruleW then rulS w
  else if wAt w 0 = zoneW then (if w.length < 2 ∨ nameS (wAt w 1) = false then 4 else erE (w.drop 2))
  else if wAt w 0 = linkW then (if w.length ≠ 3 ∨ nameS (wAt w 1) = false ∨ nameS (wAt w 2) = false then 4 else 0)
  else 4
/-- a line's words: what has been read behind it. -/
def lnV (st : RdS) (w : List ByteArray) : RdS :=
  if w.length = 0 then st
  else if st.op = true then ⟨⟨st.s.rules, addE st.s.zones (erV w), st.s.links⟩, (erV w).en⟩
  else if wAt w 0 = ruleW then ⟨⟨st.s.rules ++ [rulV w], st.s.zones, st.s.links⟩, false⟩
  else if wAt w 0 = zoneW then ⟨⟨st.s.rules, st.s.zones ++ [⟨wAt w 1, [erV (w.drop 2)]⟩], st.s.links⟩, (erV (w.drop 2)).en⟩
  else ⟨⟨st.s.rules, st.s.zones, st.s.links ++ [⟨wAt w 1, wAt w 2⟩]⟩, false⟩
/-- a line. -/
def linE (st : RdS) (l : List UInt8) : Int := if longW (wdsS l) = true then 1 else lnE st (wdsS l)
def linV (st : RdS) (l : List UInt8) : RdS := lnV st (wdsS l)
def src0 : Src := ⟨[], [], []⟩
/-- lines: what is wrong (the line, from i + 1 on), or what has been read. -/
def linsF : RdS → Nat → List (List UInt8) → (RdS × Nat) × Int
  | st, i, [] => ((st, i), 0)
  | st, i, l :: ls => if linE st l ≠ 0 then ((st, i + 1), linE st l) else linsF (linV st l) (i + 1) ls
def linesS (s : ByteArray) : List (List UInt8) := splB 10 [] s.data.toList
def rd0 : RdS := ⟨src0, false⟩
/-- a source that is read: the source, the line, what is wrong. -/
def srcV (s : ByteArray) : Src :=
  if 8000 < s.size ∨ 200 < (linesS s).length ∨ (linsF rd0 0 (linesS s)).2 ≠ 0 ∨ (linsF rd0 0 (linesS s)).1.1.op = true then src0 else (linsF rd0 0 (linesS s)).1.1.s
def srcL (s : ByteArray) : Int :=
  if 8000 < s.size ∨ 200 < (linesS s).length then 0 else if (linsF rd0 0 (linesS s)).2 ≠ 0 then ((linsF rd0 0 (linesS s)).1.2 : Int) else if (linsF rd0 0 (linesS s)).1.1.op = true then ((linesS s).length : Int) else 0
def srcX (s : ByteArray) : Int :=
  if 8000 < s.size ∨ 200 < (linesS s).length then 1 else if (linsF rd0 0 (linesS s)).2 ≠ 0 then (linsF rd0 0 (linesS s)).2 else if (linsF rd0 0 (linesS s)).1.1.op = true then 5 else 0
end Go.Proofs.YtcmlcmokjgkciaaGreatDoor

namespace Go.Proofs.YtcmlcmokjgkciaaGreatDoor
set_option linter.unusedVariables false
set_option linter.unusedSimpArgs false
open Go.ChangeShapes Go.WideShapes Go.ChangeAt Go.RowKit

theorem cells_of_strs {H : Type} {enc : TypeId × Value → H} {P : Program} {w : World} {base : Nat} {sp : Nat → Bool} {held : Bool} {fuel : Nat} {t e : TypeId} {n : Nat} {cs : List Value} {zs : List (List UInt8)} {p : List MemPlace}
    (ht : P.underlying t = some (.array n e)) (he : P.underlying e = some .string) (hce : P.cellsOf e = 1) (hct : P.cellsOf t = n)
    (h : DataW.trod enc P w base sp held fuel t cs = some (.agg (zs.map fun z => .lit (.string z)), p)) : cs = zs.map fun z => Value.string ⟨z.toArray⟩ := by
  cases fuel with
  | zero => simp [DataW.trod] at h
  | succ fuel =>
    simp only [DataW.trod, ht, hce, hct, Nat.mul_one] at h
    split at h
    · rename_i hl
      obtain ⟨xs, hm, hx⟩ := Option.map_eq_some_iff.1 h
      have hxs : xs.map (·.1) = zs.map fun z => (DataW.lit (.string z) : DataW H) := by
        have := congrArg Prod.fst hx
        simpa using this
      have hxl : xs.length = n := by simpa using Lib.mapM_length hm
      have hzl : zs.length = n := by
        have := congrArg List.length hxs
        simp at this
        omega
      apply List.ext_getElem?
      intro i
      by_cases hi : i < n
      · obtain ⟨b, hb, hf⟩ := Lib.mapM_at hm i i (by simp [hi])
        obtain ⟨s, hc, rfl, _⟩ := DataW.trod_string he hf
        have h1 : cs[i]? = some (.string s) := by
          have := congrArg (·[0]?) hc
          simpa [List.getElem?_take, List.getElem?_drop] using this
        have h2 : (xs.map (·.1))[i]? = some (DataW.lit (.string s.data.toList) : DataW H) := by simp [hb]
        rw [hxs] at h2
        simp only [List.getElem?_map, Option.map_eq_some_iff, DataW.lit.injEq, Lit.string.injEq] at h2
        obtain ⟨z', hz', rfl⟩ := h2
        simp [h1, hz']
      · rw [List.getElem?_eq_none (by omega), List.getElem?_eq_none (by simp; omega)]
    · cases h
theorem strs_of_head {P : Program} {W : World} {name : String} {zs : List (List UInt8)} {rest : List (String × DataW Unit)} {g : Nat} {t e : TypeId} {n : Nat}
    (hg : P.globalNamed name = some g) (hty : (P.globals[g]?).map (·.type) = some t) (ht : P.underlying t = some (.array n e)) (he : P.underlying e = some .string) (hce : P.cellsOf e = 1) (hct : P.cellsOf t = n)
    (h : laidMet P ((name, .agg (zs.map fun z => .lit (.string z))) :: rest) W) : W.var? P name = some (zs.map fun z => Value.string ⟨z.toArray⟩).toArray := by
  obtain ⟨ps, ⟨g', t', cs, fuel, p, q, hg', ht', hvar, hd, _, _⟩, _⟩ := h
  obtain rfl := Option.some.inj (hg.symm.trans hg')
  obtain rfl := Option.some.inj (hty.symm.trans ht')
  rw [hvar, ← cells_of_strs ht he hce hct hd]
end Go.Proofs.YtcmlcmokjgkciaaGreatDoor
