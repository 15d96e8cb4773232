/-
  Spans, plain: what is told at points that rise, each change once; points at which nothing changes may be left out.
-/
import Derived.Test.YtcmlcmokjgkciaaGreatDoorJZonW0
import Derived.Test.YtcmlcmokjgkciaaGreatDoorJAtB
namespace Go.Proofs.YtcmlcmokjgkciaaGreatDoor
set_option linter.unusedVariables false
set_option linter.unusedSimpArgs false
open Go.ChangeShapes Go.WideShapes Go.ChangeAt Go.RowKit Civ

instance : DecidableEq Clk := fun a b =>
  if h : a.off = b.off ∧ a.sav = b.sav ∧ a.nm = b.nm then isTrue (by obtain ⟨a1, a2, a3⟩ := a; obtain ⟨b1, b2, b3⟩ := b; obtain ⟨h1, h2, h3⟩ := h; dsimp only at h1 h2 h3; rw [h1, h2, h3])
  else isFalse (fun e => h (by rw [e]; exact ⟨rfl, rfl, rfl⟩))
/-- a point more: what is told at it, unless it is what was told last. -/
def addP (C : Int → Clk) (out : List Spn) (t : Int) : List Spn :=
  match out.getLast? with
  | some p => if p.ck = C t then out else out ++ [⟨t, C t⟩]
  | none => [⟨t, C t⟩]
/-- the window. -/
def lowI (ends : List Int) (i : Nat) : Int := if i = 0 then -2208988800 else max (-2208988800) (ends.getD (i - 1) 0)
def highI (ends : List Int) (i : Nat) : Int := if i < ends.length then min 4102444800 (ends.getD i 0) else 4102444800
def chgI (rules : List Rul) (x : Ero) (lo hi : Int) : List Int := srtC (if x.rl = ByteArray.empty then [] else ((trE rules x).map Trn.ins).filter fun t => decide (lo < t) && decide (t < hi))
/-- points of an era. -/
def ptsI (rules : List Rul) (x : Ero) (lo hi : Int) : List Int := if lo < hi then lo :: chgI rules x lo hi else []
def clkI (rules : List Rul) (x : Ero) (t : Int) : Clk := clkE x (stL rules x (trE rules x) t)
/-- spans of an era, behind others. -/
def spnI (rules : List Rul) (x : Ero) (lo hi : Int) (out : List Spn) : List Spn := (ptsI rules x lo hi).foldl (addP (clkI rules x)) out
/-- spans of the first so many eras. -/
def spnK (rules : List Rul) (eras : List Ero) (ends : List Int) : Nat → List Spn
  | 0 => []
  | k + 1 => match eras[k]? with
    | some x => spnI rules x (lowI ends k) (highI ends k) (spnK rules eras ends k)
    | none => spnK rules eras ends k
def spnZ (rules : List Rul) (eras : List Ero) : List Spn := spnK rules eras (untL rules eras) eras.length
def Rise (l : List Int) : Prop := ∀ (i : Nat) (h : i + 1 < l.length), l[i] < l[i + 1]
theorem Rise.lt {l : List Int} (h : Rise l) : ∀ (d i : Nat) (hj : i + d + 1 < l.length), l[i] < l[i + d + 1]
  | 0, i, hj => h i hj
  | d + 1, i, hj => by
    have h1 := h.lt d i (by omega)
    have h2 := h (i + d + 1) (by omega)
    exact Int.lt_trans h1 h2
theorem getD_atI {l : List Int} {i : Nat} (h : i < l.length) (d : Int) : l.getD i d = l[i] := by simp [List.getD, h]
end Go.Proofs.YtcmlcmokjgkciaaGreatDoor
