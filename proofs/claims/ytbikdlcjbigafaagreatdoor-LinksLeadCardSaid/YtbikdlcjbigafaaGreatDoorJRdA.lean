/-
  Lines about zones, plain: numbers, clocks, days, rules, eras, words, lines, sources. · What the row's condition on the listed variables gives the walks: tables of strings, the table of powers of ten. · The shelf's contracts of (*strings.Builder).String and strconv.Itoa, laid (the shelf's tool lay-plain printed the layings; the numbers by name). · A code read back, plain: cuts, pieces, operators, numbers. · A code read back, plain: numbers as decimals, both ways; a line; the whole.
-/
import Derived.LaidMore
import Derived.Stop.Joined
import Derived.Below
import Derived.Carry
import Derived.Lib.LaidTab
import Derived.Shelf.Strings.BuilderK
import Derived.Shelf.LaysM
import Derived.Shelf.Strconv.Itoa3
import Derived.Lib.IndexMore
import Derived.Lib.AtoiAll
import Derived.Lib.ItoaMem
import Derived.Lib.SlicesS
import Derived.Lib.ItoaLen
import Derived.Lib.OthersKept
import Derived.Lib.FrozenHead2
import Derived.Test.YtbikdlcjbigafaaGreatDoorJZonB0
import Derived.Test.YtbikdlcjbigafaaGreatDoorJTreeT
import Derived.Test.YtbikdlcjbigafaaGreatDoorJBase
import Derived.Test.YtbikdlcjbigafaaGreatDoorProg
namespace Go.Proofs.YtbikdlcjbigafaaGreatDoor
set_option linter.unusedVariables false
set_option linter.unusedSimpArgs false
open Go.ChangeShapes Go.WideShapes Go.ChangeAt Go.RowKit Civ

def bx (l : List UInt8) : ByteArray := ⟨l.toArray⟩
theorem bx_data (s : ByteArray) : bx s.data.toList = s := by obtain ⟨⟨l⟩⟩ := s; rfl
theorem data_bx (l : List UInt8) : (bx l).data.toList = l := rfl
theorem bx_size (l : List UInt8) : (bx l).size = l.length := rfl
theorem bx_inj {a b : List UInt8} (h : bx a = bx b) : a = b := by
  have := congrArg (fun s => s.data.toList) h
  exact this
/-- the k-th byte, as a number. -/
def byI (s : ByteArray) (k : Nat) : Int := (bl s).getD k 0
def dropB (s : ByteArray) (k : Nat) : ByteArray := bx (s.data.toList.drop k)
def takeB (s : ByteArray) (k : Nat) : ByteArray := bx (s.data.toList.take k)
/-- a year. -/
def yrS (s : ByteArray) : Int × Int := ((dcm (bl s) 9999).1, if (dcm (bl s) 9999).2 = 0 ∧ ¬ (1900 ≤ (dcm (bl s) 9999).1 ∧ (dcm (bl s) 9999).1 ≤ 2099) then 2 else (dcm (bl s) 9999).2)
/-- a day's number. -/
def dnS (s : ByteArray) : Int × Int := ((dcm (bl s) 31).1, if (dcm (bl s) 31).2 = 0 ∧ (dcm (bl s) 31).1 = 0 then 2 else (dcm (bl s) 31).2)
/-- two digits. -/
def twoB (s : ByteArray) : Bool := decide (s.size = 2) && (decide (48 ≤ byI s 0) && decide (byI s 0 ≤ 53)) && digB (byI s 1)
def twoV (s : ByteArray) : Int := 10 * (byI s 0 - 48) + (byI s 1 - 48)
/-- minutes and seconds: what is gathered; is there one that may not be? -/
def minT : List ByteArray → Int → Int → Int × Bool
  | [], _, n => (n, true)
  | x :: l, u, n => if twoB x then minT l 1 (n + u * twoV x) else (0, false)
def colS (s : ByteArray) : List ByteArray := (splB 58 [] s.data.toList).map bx
/-- hours, and perhaps minutes and seconds. -/
def hrsS (s : ByteArray) (most : Int) : Int × Int :=
  if 3 < (colS s).length then (0, 4)
  else if (dcm (bl ((colS s).headD ByteArray.empty)) 999).2 ≠ 0 then (0, (dcm (bl ((colS s).headD ByteArray.empty)) 999).2)
  else if (minT (colS s).tail 60 (3600 * (dcm (bl ((colS s).headD ByteArray.empty)) 999).1)).2 = false then (0, 4)
  else if most < (minT (colS s).tail 60 (3600 * (dcm (bl ((colS s).headD ByteArray.empty)) 999).1)).1 then (0, 2)
  else ((minT (colS s).tail 60 (3600 * (dcm (bl ((colS s).headD ByteArray.empty)) 999).1)).1, 0)
/-- ahead of the world. -/
def offS (s : ByteArray) : Int × Int :=
  if 0 < s.size ∧ byI s 0 = 45 then (-(hrsS (dropB s 1) 86400).1, (hrsS (dropB s 1) 86400).2) else hrsS s 86400
def monN : List ByteArray := [bx [74, 97, 110], bx [70, 101, 98], bx [77, 97, 114], bx [65, 112, 114], bx [77, 97, 121], bx [74, 117, 110], bx [74, 117, 108], bx [65, 117, 103], bx [83, 101, 112], bx [79, 99, 116], bx [78, 111, 118], bx [68, 101, 99]]
def wdN : List ByteArray := [bx [83, 117, 110], bx [77, 111, 110], bx [84, 117, 101], bx [87, 101, 100], bx [84, 104, 117], bx [70, 114, 105], bx [83, 97, 116]]
/-- a place in a list. -/
def plcS (l : List ByteArray) (s : ByteArray) : Int := fidx (fun x => decide (x = s)) l
def monS (s : ByteArray) : Int × Int := if plcS monN s < 0 then (0, 4) else (plcS monN s + 1, 0)
def wdS (s : ByteArray) : Int × Int := if plcS wdN s < 0 then (0, 4) else (plcS wdN s, 0)
structure DyV where
  k : Int
  a : Int
  n : Int
/-- a weekday and a number, cut at a mark. -/
def dyC (k : Int) (s : ByteArray) (i : Nat) : DyV × Int :=
  if (wdS (takeB s i)).2 ≠ 0 then (⟨0, 0, 0⟩, (wdS (takeB s i)).2) else (⟨k, (wdS (takeB s i)).1, (dnS (dropB s (i + 2))).1⟩, (dnS (dropB s (i + 2))).2)
def geS (s : ByteArray) : Int := Lib.index s.data.toList [62, 61]
def leS (s : ByteArray) : Int := Lib.index s.data.toList [60, 61]
/-- a day of a month. -/
def dyS (s : ByteArray) : DyV × Int :=
  if 4 ≤ s.size ∧ takeB s 4 = bx [108, 97, 115, 116] then (⟨2, (wdS (dropB s 4)).1, 0⟩, (wdS (dropB s 4)).2)
  else if 0 ≤ geS s then dyC 3 s (geS s).toNat
  else if 0 ≤ leS s then dyC 4 s (leS s).toNat
  else (⟨1, 0, (dnS s).1⟩, (dnS s).2)
/-- by which clock: the last letter. -/
def ckC (c : Int) : Int := if c = 119 then 0 else if c = 115 then 1 else if c = 117 then 2 else -1
/-- a time of a day: seconds, clock, what is wrong. -/
def tmS (s : ByteArray) : (Int × Int) × Int :=
  if 1 < s.size ∧ digB (byI s (s.size - 1)) = false then
    if ckC (byI s (s.size - 1)) < 0 then ((0, 0), 4)
    else (((hrsS (takeB s (s.size - 1)) 604800).1, ckC (byI s (s.size - 1))), (hrsS (takeB s (s.size - 1)) 604800).2)
  else (((hrsS s 604800).1, 0), (hrsS s 604800).2)
def wAt (w : List ByteArray) (k : Nat) : ByteArray := w.getD k ByteArray.empty
def dashS : ByteArray := bx [45]
/-- the last year of a rule. -/
def toS (w : List ByteArray) : Int × Int :=
  if wAt w 3 = bx [111, 110, 108, 121] then ((yrS (wAt w 2)).1, 0) else if wAt w 3 = bx [109, 97, 120] then (2099, 0) else yrS (wAt w 3)
/-- a rule's words: what is wrong; the rule. -/
def rulS (w : List ByteArray) : Int :=
  if w.length ≠ 10 ∨ nameS (wAt w 1) = false then 4
  else if (yrS (wAt w 2)).2 ≠ 0 then (yrS (wAt w 2)).2
  else if (toS w).2 ≠ 0 then (toS w).2
  else if (toS w).1 < (yrS (wAt w 2)).1 then 8
  else if wAt w 4 ≠ dashS then 4
  else if (monS (wAt w 5)).2 ≠ 0 then (monS (wAt w 5)).2
  else if (dyS (wAt w 6)).2 ≠ 0 then (dyS (wAt w 6)).2
  else if (tmS (wAt w 7)).2 ≠ 0 then (tmS (wAt w 7)).2
  else if (offS (wAt w 8)).2 ≠ 0 then (offS (wAt w 8)).2
  else if wAt w 9 ≠ dashS ∧ letsB (wAt w 9) = false then 4
  else 0
def rulV (w : List ByteArray) : Rul :=
  ⟨wAt w 1, (yrS (wAt w 2)).1, (toS w).1, ⟨(monS (wAt w 5)).1, (dyS (wAt w 6)).1.k, (dyS (wAt w 6)).1.a, (dyS (wAt w 6)).1.n, (tmS (wAt w 7)).1.1, (tmS (wAt w 7)).1.2⟩, (offS (wAt w 8)).1, if wAt w 9 = dashS then ByteArray.empty else wAt w 9⟩
/-- an era's words: what is wrong with the first three. -/
def er1S (w : List ByteArray) : Int :=
  if wAt w 1 = dashS then 0 else if digB (byI (wAt w 1) 0) = true ∨ byI (wAt w 1) 0 = 45 then (offS (wAt w 1)).2 else if nameS (wAt w 1) = false then 4 else 0
def erE (w : List ByteArray) : Int :=
  if w.length < 3 ∨ 7 < w.length then 4
  else if (offS (wAt w 0)).2 ≠ 0 then (offS (wAt w 0)).2
  else if er1S w ≠ 0 then er1S w
  else if fmtL (wAt w 2).data.toList = false then 4
  else if w.length = 3 then 0
  else if (yrS (wAt w 3)).2 ≠ 0 then (yrS (wAt w 3)).2
  else if 4 < w.length ∧ (monS (wAt w 4)).2 ≠ 0 then (monS (wAt w 4)).2
  else if 5 < w.length ∧ (dyS (wAt w 5)).2 ≠ 0 then (dyS (wAt w 5)).2
  else if 6 < w.length then (tmS (wAt w 6)).2
  else 0
def erSv (w : List ByteArray) : Int := if wAt w 1 = dashS then 0 else if digB (byI (wAt w 1) 0) = true ∨ byI (wAt w 1) 0 = 45 then (offS (wAt w 1)).1 else 0
def erRl (w : List ByteArray) : ByteArray := if wAt w 1 = dashS then ByteArray.empty else if digB (byI (wAt w 1) 0) = true ∨ byI (wAt w 1) 0 = 45 then ByteArray.empty else wAt w 1
def erUn (w : List ByteArray) : Mom :=
  if w.length = 3 then ⟨0, 0, 0, 0, 0, 0⟩
  else ⟨if 4 < w.length then (monS (wAt w 4)).1 else 1, if 5 < w.length then (dyS (wAt w 5)).1.k else 1, if 5 < w.length then (dyS (wAt w 5)).1.a else 0, if 5 < w.length then (dyS (wAt w 5)).1.n else 1,
    if 6 < w.length then (tmS (wAt w 6)).1.1 else 0, if 6 < w.length then (tmS (wAt w 6)).1.2 else 0⟩
def erV (w : List ByteArray) : Ero :=
  ⟨(offS (wAt w 0)).1, erRl w, erSv w, wAt w 2, decide (w.length ≠ 3), if w.length = 3 then 0 else (yrS (wAt w 3)).1, erUn w⟩
/-- words, up to a mark; cur is what the first one has so far. -/
def wdsF : List UInt8 → List UInt8 → List (List UInt8)
  | cur, [] => if cur = [] then [] else [cur]
  | cur, c :: l => if c = 35 then (if cur = [] then [] else [cur]) else if c = 32 ∨ c = 9 then (if cur = [] then wdsF [] l else cur :: wdsF [] l) else wdsF (cur ++ [c]) l
def wdsS (l : List UInt8) : List ByteArray := (wdsF [] l).map bx
def longW (w : List ByteArray) : Bool := w.any fun x => decide (20 < x.size)
/-- what has been read: a source; has the last zone an era more? -/
structure RdS where
  s : Src
  op : Bool
def addE (zs : List Zon) (x : Ero) : List Zon := match zs.getLast? with
  | some z => zs.dropLast ++ [⟨z.nm, z.eras ++ [x]⟩]
  | none => zs
def lastN (zs : List Zon) : Nat := match zs.getLast? with
  | some z => z.eras.length
  | none => 0
def ruleW : ByteArray := bx [82, 117, 108, 101]
def zoneW : ByteArray := bx [90, 111, 110, 101]
def linkW : ByteArray := bx [76, 105, 110, 107]
/-- a line's words: what is wrong. -/
def lnE (st : RdS) (w : List ByteArray) : Int :=
  if w.length = 0 then 0
  else if st.op = true then (if erE w ≠ 0 then erE w else if 20 ≤ lastN st.s.zones then 1 else 0)
  else if wAt w 0 = ruleW then rulS w
  else if wAt w 0 = zoneW then (if w.length < 2 ∨ nameS (wAt w 1) = false then 4 else erE (w.drop 2))
  else if wAt w 0 = linkW then (if w.length ≠ 3 ∨ nameS (wAt w 1) = false ∨ nameS (wAt w 2) = false then 4 else 0)
  else 4
/-- a line's words: what has been read behind it. -/
def lnV (st : RdS) (w : List ByteArray) : RdS :=
  if w.length = 0 then st
  else if st.op = true then ⟨⟨st.s.rules, addE st.s.zones (erV w), st.s.links⟩, (erV w).en⟩
  else if wAt w 0 = ruleW then ⟨⟨st.s.rules ++ [rulV w], st.s.zones, st.s.links⟩, false⟩
  else if wAt w 0 = zoneW then ⟨⟨st.s.rules, st.s.zones ++ [⟨wAt w 1, [erV (w.drop 2)]⟩], st.s.links⟩, (erV (w.drop 2)).en⟩
  else ⟨⟨st.s.rules, st.s.zones, st.s.links ++ [⟨wAt w 1, wAt w 2⟩]⟩, false⟩
/-- a line. -/
def linE (st : RdS) (l : List UInt8) : Int := if longW (wdsS l) = true then 1 else lnE st (wdsS l)
def linV (st : RdS) (l : List UInt8) : RdS := lnV st (wdsS l)
def src0 : Src := ⟨[], [], []⟩
/-- lines: what is wrong (the line, from i + 1 on), or what has been read. -/
def linsF : RdS → Nat → List (List UInt8) → (RdS × Nat) × Int
  | st, i, [] => ((st, i), 0)
  | st, i, l :: ls => if linE st l ≠ 0 then ((st, i + 1), linE st l) else linsF (linV st l) (i + 1) ls
def linesS (s : ByteArray) : List (List UInt8) := splB 10 [] s.data.toList
def rd0 : RdS := ⟨src0, false⟩
/-- a source that is read: the source, the line, what is wrong. -/
def srcV (s : ByteArray) : Src :=
  if 8000 < s.size ∨ 200 < (linesS s).length ∨ (linsF rd0 0 (linesS s)).2 ≠ 0 ∨ (linsF rd0 0 (linesS s)).1.1.op = true then src0 else (linsF rd0 0 (linesS s)).1.1.s
def srcL (s : ByteArray) : Int :=
  if 8000 < s.size ∨ 200 < (linesS s).length then 0 else if (linsF rd0 0 (linesS s)).2 ≠ 0 then ((linsF rd0 0 (linesS s)).1.2 : Int) else if (linsF rd0 0 (linesS s)).1.1.op = true then ((linesS s).length : Int) else 0
def srcX (s : ByteArray) : Int :=
  if 8000 < s.size ∨ 200 < (linesS s).length then 1 else if (linsF rd0 0 (linesS s)).2 ≠ 0 then (linsF rd0 0 (linesS s)).2 else if (linsF rd0 0 (linesS s)).1.1.op = true then 5 else 0
end Go.Proofs.YtbikdlcjbigafaaGreatDoor

namespace Go.Proofs.YtbikdlcjbigafaaGreatDoor
set_option linter.unusedVariables false
set_option linter.unusedSimpArgs false
open Go.ChangeShapes Go.WideShapes Go.ChangeAt Go.RowKit

theorem cells_of_strs {H : Type} {enc : TypeId × Value → H} {P : Program} {w : World} {base : Nat} {sp : Nat → Bool} {held : Bool} {fuel : Nat} {t e : TypeId} {n : Nat} {cs : List Value} {zs : List (List UInt8)} {p : List MemPlace}
    (ht : P.underlying t = some (.array n e)) (he : P.underlying e = some .string) (hce : P.cellsOf e = 1) (hct : P.cellsOf t = n)
    (h : DataW.trod enc P w base sp held fuel t cs = some (.agg (zs.map fun z => .lit (.string z)), p)) : cs = zs.map fun z => Value.string ⟨z.toArray⟩ := by
  cases fuel with
  | zero => simp [DataW.trod] at h
  | succ fuel =>
    simp only [DataW.trod, ht, hce, hct, Nat.mul_one] at h
    split at h
    · rename_i hl
      obtain ⟨xs, hm, hx⟩ := Option.map_eq_some_iff.1 h
      have hxs : xs.map (·.1) = zs.map fun z => (DataW.lit (.string z) : DataW H) := by
        have := congrArg Prod.fst hx
        simpa using this
      have hxl : xs.length = n := by simpa using Lib.mapM_length hm
      have hzl : zs.length = n := by
        have := congrArg List.length hxs
        simp at this
        omega
      apply List.ext_getElem?
      intro i
      by_cases hi : i < n
      · obtain ⟨b, hb, hf⟩ := Lib.mapM_at hm i i (by simp [hi])
        obtain ⟨s, hc, rfl, _⟩ := DataW.trod_string he hf
        have h1 : cs[i]? = some (.string s) := by
          have := congrArg (·[0]?) hc
          simpa [List.getElem?_take, List.getElem?_drop] using this
        have h2 : (xs.map (·.1))[i]? = some (DataW.lit (.string s.data.toList) : DataW H) := by simp [hb]
        rw [hxs] at h2
        simp only [List.getElem?_map, Option.map_eq_some_iff, DataW.lit.injEq, Lit.string.injEq] at h2
        obtain ⟨z', hz', rfl⟩ := h2
        simp [h1, hz']
      · rw [List.getElem?_eq_none (by omega), List.getElem?_eq_none (by simp; omega)]
    · cases h
theorem strs_of_head {P : Program} {W : World} {name : String} {zs : List (List UInt8)} {rest : List (String × DataW Unit)} {g : Nat} {t e : TypeId} {n : Nat}
    (hg : P.globalNamed name = some g) (hty : (P.globals[g]?).map (·.type) = some t) (ht : P.underlying t = some (.array n e)) (he : P.underlying e = some .string) (hce : P.cellsOf e = 1) (hct : P.cellsOf t = n)
    (h : laidMet P ((name, .agg (zs.map fun z => .lit (.string z))) :: rest) W) : W.var? P name = some (zs.map fun z => Value.string ⟨z.toArray⟩).toArray := by
  obtain ⟨ps, ⟨g', t', cs, fuel, p, q, hg', ht', hvar, hd, _, _⟩, _⟩ := h
  obtain rfl := Option.some.inj (hg.symm.trans hg')
  obtain rfl := Option.some.inj (hty.symm.trans ht')
  rw [hvar, ← cells_of_strs ht he hce hct hd]
end Go.Proofs.YtbikdlcjbigafaaGreatDoor

namespace Go.Proofs.YtbikdlcjbigafaaGreatDoor
open Go.Shelf
def Sh.laysM171_ren : Go.Shelf.Ren := ⟨fun | 171 => 40 | 243 => 73 | 246 => 120 | 283 => 155 | 284 => 156 | 285 => 157 | 286 => 158 | 129 => 145 | 317 => 181 | 318 => 182 | 319 => 183 | 320 => 184 | 337 => 192 | 338 => 193 | n => n, fun | 3 => 3 | 9 => 9 | 2 => 2 | 4 => 4 | 171 => 217 | 0 => 0 | 53 => 211 | 37 => 157 | 5 => 5 | 173 => 219 | 212 => 245 | 51 => 209 | 20 => 20 | 213 => 246 | 46 => 172 | 232 => 254 | 233 => 255 | n => n, fun | 17 => 5 | 18 => 7 | 19 => 8 | n => n⟩
theorem Sh.laysM171 : Go.Proofs.LaysM.n171 Tryz.prog Sh.laysM171_ren := {
  mixed := by kernel_rfl
  f129 := Tryz.func145.trans (congrArg some (by kernel_rfl))
  f171 := Tryz.func40.trans (congrArg some (by kernel_rfl))
  f243 := Tryz.func73.trans (congrArg some (by kernel_rfl))
  f246 := Tryz.func120.trans (congrArg some (by kernel_rfl))
  f283 := Tryz.func155.trans (congrArg some (by kernel_rfl))
  f284 := Tryz.func156.trans (congrArg some (by kernel_rfl))
  f285 := Tryz.func157.trans (congrArg some (by kernel_rfl))
  f286 := Tryz.func158.trans (congrArg some (by kernel_rfl))
  f317 := Tryz.func181.trans (congrArg some (by kernel_rfl))
  f318 := Tryz.func182.trans (congrArg some (by kernel_rfl))
  f319 := Tryz.func183.trans (congrArg some (by kernel_rfl))
  f320 := Tryz.func184.trans (congrArg some (by kernel_rfl))
  f337 := Tryz.func192.trans (congrArg some (by kernel_rfl))
  f338 := Tryz.func193.trans (congrArg some (by kernel_rfl))
  t0 := Tryz.underlying0
  a0 := Tryz.isAgg0
  z0 := Tryz.sizeOf0
  v0 := Tryz.zeroValue0
  t2 := Tryz.underlying2
  a2 := Tryz.isAgg2
  z2 := Tryz.sizeOf2
  v2 := Tryz.zeroValue2
  t3 := Tryz.underlying3
  a3 := Tryz.isAgg3
  z3 := Tryz.sizeOf3
  v3 := Tryz.zeroValue3
  t4 := Tryz.underlying4
  a4 := Tryz.isAgg4
  z4 := Tryz.sizeOf4
  v4 := Tryz.zeroValue4
  t5 := Tryz.underlying5
  a5 := Tryz.isAgg5
  z5 := Tryz.sizeOf5
  v5 := Tryz.zeroValue5
  t9 := Tryz.underlying9
  a9 := Tryz.isAgg9
  z9 := Tryz.sizeOf9
  v9 := Tryz.zeroValue9
  t20 := Tryz.underlying20
  a20 := Tryz.isAgg20
  z20 := Tryz.sizeOf20
  v20 := Tryz.zeroValue20
  t37 := Tryz.underlying157
  a37 := Tryz.isAgg157
  z37 := Tryz.sizeOf157
  v37 := Tryz.zeroValue157
  t46 := Tryz.underlying172
  a46 := Tryz.isAgg172
  z46 := Tryz.sizeOf172
  v46 := Tryz.zeroValue172
  t51 := Tryz.underlying209
  a51 := Tryz.isAgg209
  z51 := Tryz.sizeOf209
  v51 := Tryz.zeroValue209
  t53 := Tryz.underlying211
  a53 := Tryz.isAgg211
  z53 := Tryz.sizeOf211
  v53 := Tryz.zeroValue211
  t171 := Tryz.underlying217
  a171 := Tryz.isAgg217
  z171 := Tryz.sizeOf217
  v171 := Tryz.zeroValue217
  t173 := Tryz.underlying219
  a173 := Tryz.isAgg219
  z173 := Tryz.sizeOf219
  v173 := Tryz.zeroValue219
  t212 := Tryz.underlying245
  a212 := Tryz.isAgg245
  z212 := Tryz.sizeOf245
  v212 := Tryz.zeroValue245
  t213 := Tryz.underlying246
  a213 := Tryz.isAgg246
  z213 := Tryz.sizeOf246
  t232 := Tryz.underlying254
  a232 := Tryz.isAgg254
  z232 := Tryz.sizeOf254
  v232 := Tryz.zeroValue254
  t233 := Tryz.underlying255
  a233 := Tryz.isAgg255
  z233 := Tryz.sizeOf255
  v233 := Tryz.zeroValue255
  g17 := by kernel_rfl
  g18 := by kernel_rfl
  g19 := by kernel_rfl
  i0 := by kernel_rfl
  i2 := by kernel_rfl
  i3 := by kernel_rfl
  i4 := by kernel_rfl
  i5 := by kernel_rfl
  i9 := by kernel_rfl
  i20 := by kernel_rfl
  i37 := by kernel_rfl
  i46 := by kernel_rfl
  i51 := by kernel_rfl
  i53 := by kernel_rfl
  i171 := by kernel_rfl
  i173 := by kernel_rfl
  i212 := by kernel_rfl
  i232 := by kernel_rfl
  i233 := by kernel_rfl
  m17 := by kernel_rfl
  m18 := by kernel_rfl
  m19 := by kernel_rfl }
open Go.RowKit Go.Sort Go.Lib in
theorem Sh.strconv_Itoa (n : Int) (h0 : -9223372036854775808 ≤ n) (h1 : n ≤ 9223372036854775807) (w : World) (htab : Lib.TabIs Tryz.prog w "internal/strconv.uint64pow10" .u64 Lib.pow10Tab) :
    Calls Tryz.prog 40 #[.int .i64 n] w fun e w' => e = .returned (.string ⟨(Lib.itoa n).toArray⟩) ∧ ∃ k os, w' = grow (w.drewN k) os := Any.strconv_Itoa Sh.laysM171 n h0 h1 w htab
end Go.Proofs.YtbikdlcjbigafaaGreatDoor

namespace Go.Proofs.YtbikdlcjbigafaaGreatDoor
set_option linter.unusedVariables false
set_option linter.unusedSimpArgs false
open Go.ChangeShapes Go.WideShapes Go.ChangeAt Go.RowKit

/-- a text, cut at the first c. -/
def cutB (c : UInt8) : List UInt8 → List UInt8 × List UInt8 × Bool
  | [] => ([], [], false)
  | x :: l => if x = c then ([], l, true) else (x :: (cutB c l).1, (cutB c l).2.1, (cutB c l).2.2)
theorem cut_one (c : UInt8) : ∀ l : List UInt8, Lib.cut l [c] = cutB c l
  | [] => rfl
  | x :: l => by
    have ih := cut_one c l
    have hge := Lib.index_ge l [c]
    unfold Lib.cut at ih ⊢
    have e : Lib.index (x :: l) [c] = if [c].isPrefixOf (x :: l) then 0 else if Lib.index l [c] == -1 then -1 else Lib.index l [c] + 1 := rfl
    have e2 : [c].isPrefixOf (x :: l) = (c == x) := by simp [List.isPrefixOf]
    rw [e, e2]
    by_cases h : x = c
    · subst h
      simp [cutB]
    · have h' : (c == x) = false := by rw [beq_eq_false_iff_ne]; exact fun e => h e.symm
      rw [h']
      show _ = if x = c then _ else _
      rw [if_neg h, ← ih]
      by_cases h2 : Lib.index l [c] = -1
      · simp [h2]
      · have h3 : (Lib.index l [c] == -1) = false := by rw [beq_eq_false_iff_ne]; exact h2
        have h4 : 0 ≤ Lib.index l [c] := by omega
        have h5 : 0 ≤ Lib.index l [c] + 1 := by omega
        have h6 : (Lib.index l [c] + 1).toNat = (Lib.index l [c]).toNat + 1 := by omega
        simp only [h3, Bool.false_eq_true, if_false, if_pos h4, if_pos h5, h6, List.take_succ_cons, List.length_singleton, List.drop_succ_cons]
theorem spl_cut (c : UInt8) : ∀ (l cur : List UInt8), splB c cur l = if (cutB c l).2.2 then (cur ++ (cutB c l).1) :: splB c [] (cutB c l).2.1 else [cur ++ (cutB c l).1]
  | [], cur => by simp [splB, cutB]
  | x :: l, cur => by
    show (if x = c then _ else _) = _
    have e : cutB c (x :: l) = if x = c then ([], l, true) else (x :: (cutB c l).1, (cutB c l).2.1, (cutB c l).2.2) := rfl
    rw [e]
    by_cases h : x = c
    · simp [h]
    · rw [if_neg h, if_neg h, spl_cut c l (cur ++ [x])]
      simp
theorem spl_ne (c : UInt8) (cur l : List UInt8) : splB c cur l ≠ [] := by
  rw [spl_cut]
  split <;> simp
end Go.Proofs.YtbikdlcjbigafaaGreatDoor

namespace Go.Proofs.YtbikdlcjbigafaaGreatDoor
set_option linter.unusedVariables false
set_option linter.unusedSimpArgs false
open Go.ChangeShapes Go.WideShapes Go.ChangeAt Go.RowKit

def ilB (l : List UInt8) : List Int := l.map fun b => (b.toNat : Int)
def digsB (l : List UInt8) : Prop := ∀ b ∈ l, 48 ≤ b.toNat ∧ b.toNat ≤ 57
theorem dec_small {u : Nat} (h : u < 10) : Lib.decDigits u = [UInt8.ofNat (48 + u)] := by rw [Lib.decDigits, dif_pos h]
theorem dec_big {u : Nat} (h : ¬ u < 10) : Lib.decDigits u = Lib.decDigits (u / 10) ++ [UInt8.ofNat (48 + u % 10)] := by rw [Lib.decDigits, dif_neg h]
theorem dig_nat {u : Nat} (h : u < 10) : (UInt8.ofNat (48 + u)).toNat = 48 + u := by rw [UInt8.toNat_ofNat']; omega
theorem dec_digs (u : Nat) : digsB (Lib.decDigits u) := by
  induction u using Nat.strongRecOn with
  | _ u ih =>
    by_cases h : u < 10
    · rw [dec_small h]
      intro b hb
      simp at hb
      subst hb
      have := dig_nat h
      simp at this ⊢
      omega
    · rw [dec_big h]
      intro b hb
      rcases List.mem_append.1 hb with hb | hb
      · exact ih _ (by omega) b hb
      · have e : b = UInt8.ofNat (48 + u % 10) := by simpa using hb
        rw [e, dig_nat (by omega)]
        omega
theorem dec_ne (u : Nat) : Lib.decDigits u ≠ [] := by
  by_cases h : u < 10
  · rw [dec_small h]; simp
  · rw [dec_big h]; simp
theorem ilB_digs {l : List UInt8} : (ilB l).all digB = true ↔ digsB l := by
  unfold ilB digsB
  rw [List.all_eq_true]
  constructor
  · intro h b hb
    have := (digB_iff _).1 (h _ (List.mem_map_of_mem hb))
    omega
  · intro h x hx
    obtain ⟨b, hb, rfl⟩ := List.mem_map.1 hx
    have := h b hb
    exact (digB_iff _).2 (by omega)
theorem ilB_len (l : List UInt8) : (ilB l).length = l.length := by simp [ilB]
theorem snoc_ind {α : Type} {P : List α → Prop} (h0 : P []) (h1 : ∀ r x, P r → P (r ++ [x])) : ∀ (k : Nat) (l : List α), l.length = k → P l
  | 0, l, h => by rw [List.length_eq_zero_iff.1 h]; exact h0
  | k + 1, l, h => by
    rcases List.eq_nil_or_concat l with rfl | ⟨r, b, rfl⟩
    · exact h0
    · rw [List.concat_eq_append] at h ⊢
      exact h1 r b (snoc_ind h0 h1 k r (by simpa using h))
theorem dval_pos : ∀ (r : List UInt8), digsB r → (∃ b l, r = b :: l ∧ b.toNat ≠ 48) → 1 ≤ dval (ilB r) := by
  intro r
  refine snoc_ind (P := fun r => digsB r → (∃ b l, r = b :: l ∧ b.toNat ≠ 48) → 1 ≤ dval (ilB r)) ?_ ?_ _ r rfl
  · rintro _ ⟨b, l, e, _⟩; cases e
  · intro r x ih hd ⟨b, l, e, hb⟩
    have hx := hd x (by simp)
    unfold ilB
    rw [List.map_append, List.map_singleton, dval_snoc]
    rcases r with _ | ⟨c, r⟩
    · simp at e
      obtain ⟨rfl, _⟩ := e
      show 1 ≤ 10 * 0 + ((x.toNat : Int) - 48)
      omega
    · simp at e
      obtain ⟨rfl, _⟩ := e
      have := ih (fun y hy => hd y (List.mem_append_left _ hy)) ⟨c, r, rfl, hb⟩
      unfold ilB at this
      omega
theorem dec_of : ∀ (n : List UInt8), digsB n → n ≠ [] → (1 < n.length → n.head?.map (·.toNat) ≠ some 48) → n = Lib.decDigits (dval (ilB n)).toNat := by
  intro n
  refine snoc_ind (P := fun n => digsB n → n ≠ [] → (1 < n.length → n.head?.map (·.toNat) ≠ some 48) → n = Lib.decDigits (dval (ilB n)).toNat) ?_ ?_ _ n rfl
  · intro _ h; exact absurd rfl h
  · intro r x ih hd _ hh
    have hx := hd x (by simp)
    have ev : dval (ilB (r ++ [x])) = 10 * dval (ilB r) + ((x.toNat : Int) - 48) := by
      unfold ilB
      rw [List.map_append, List.map_singleton, dval_snoc]
    have ex : UInt8.ofNat (48 + (x.toNat - 48)) = x := by
      apply UInt8.toNat_inj.1
      rw [dig_nat (by omega)]
      omega
    rcases r with _ | ⟨c, r⟩
    · have : (dval (ilB [x])).toNat = x.toNat - 48 := by
        show ((10 * 0 + ((x.toNat : Int) - 48)) : Int).toNat = _
        omega
      show [x] = Lib.decDigits (dval (ilB [x])).toNat
      rw [this, dec_small (by omega), ex]
    · have hr : digsB (c :: r) := fun y hy => hd y (List.mem_append_left _ hy)
      have hc : c.toNat ≠ 48 := fun e => hh (by simp) (by simp [e])
      have hp := dval_pos (c :: r) hr ⟨c, r, rfl, hc⟩
      have hi := ih hr (by simp) (fun _ => by simpa using hc)
      have hv : (dval (ilB (c :: r ++ [x]))).toNat = 10 * (dval (ilB (c :: r))).toNat + (x.toNat - 48) := by rw [ev]; omega
      rw [hv, dec_big (by omega)]
      rw [show (10 * (dval (ilB (c :: r))).toNat + (x.toNat - 48)) / 10 = (dval (ilB (c :: r))).toNat by omega, ← hi, show (10 * (dval (ilB (c :: r))).toNat + (x.toNat - 48)) % 10 = x.toNat - 48 by omega, ex]
theorem parse_snoc (b : UInt8) (hb : 48 ≤ b.toNat ∧ b.toNat ≤ 57) : ∀ (l : List UInt8) (acc v : Nat), Lib.parseUint10 acc l = .ok v → v < 1000000 → Lib.parseUint10 acc (l ++ [b]) = .ok (v * 10 + (b.toNat - 48))
  | [], acc, v, h, hv => by
    simp only [Lib.parseUint10] at h
    injection h with h
    subst h
    show (if 48 ≤ b.toNat ∧ b.toNat ≤ 57 then _ else _) = _
    rw [if_pos hb, if_neg (by omega), if_neg (by omega)]
    rfl
  | c :: l, acc, v, h, hv => by
    simp only [Lib.parseUint10, List.cons_append] at h ⊢
    split at h
    · rename_i h1
      rw [if_pos h1]
      split at h
      · cases h
      · rename_i h2
        rw [if_neg h2]
        split at h
        · cases h
        · rename_i h3
          rw [if_neg h3]
          exact parse_snoc b hb l _ v h hv
    · cases h
theorem parse_dec (u : Nat) (h : u < 1000000) : Lib.parseUint10 0 (Lib.decDigits u) = .ok u := by
  induction u using Nat.strongRecOn with
  | _ u ih =>
    by_cases h1 : u < 10
    · rw [dec_small h1]
      have := parse_snoc (UInt8.ofNat (48 + u)) (by rw [dig_nat h1]; omega) [] 0 0 rfl (by omega)
      rw [dig_nat h1] at this
      rw [show [] ++ [UInt8.ofNat (48 + u)] = [UInt8.ofNat (48 + u)] from rfl] at this
      rw [this]
      congr 1
      omega
    · rw [dec_big h1]
      have hx : (UInt8.ofNat (48 + u % 10)).toNat = 48 + u % 10 := dig_nat (by omega)
      have := parse_snoc (UInt8.ofNat (48 + u % 10)) (by rw [hx]; omega) _ 0 _ (ih (u / 10) (by omega) (by omega)) (by omega)
      rw [hx] at this
      rw [this]
      congr 1
      omega
theorem atoi_dec (u : Nat) (h : u < 1000000) : Lib.atoiAll (Lib.decDigits u) = .ok (u : Int) := by
  have hp := parse_dec u h
  have hd := dec_digs u
  rcases hl : Lib.decDigits u with _ | ⟨c, r⟩
  · exact absurd hl (dec_ne u)
  · rw [hl] at hp hd
    have hc := hd c (by simp)
    have h43 : ¬ (c.toNat = 43 ∨ c.toNat = 45) := by omega
    unfold Lib.atoiAll
    dsimp only
    rw [if_neg h43]
    unfold Lib.parseMag
    rw [if_neg (List.cons_ne_nil _ _), hp]
    dsimp only
    rw [if_neg (by omega), if_neg (by omega), if_neg (by omega)]
end Go.Proofs.YtbikdlcjbigafaaGreatDoor
