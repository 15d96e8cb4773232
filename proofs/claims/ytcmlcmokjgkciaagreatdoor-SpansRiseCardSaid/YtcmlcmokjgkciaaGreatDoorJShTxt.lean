/-
  The shelf's contracts of (*strings.Builder).String and strconv.Itoa, laid (the shelf's tool lay-plain printed the layings; the numbers by name). · A code read back, plain: cuts, pieces, operators, numbers.
-/
import Derived.Shelf.Strings.BuilderK
import Derived.Shelf.LaysM
import Derived.Shelf.Strconv.Itoa3
import Derived.Lib.IndexMore
import Derived.Lib.AtoiAll
import Derived.Lib.ItoaMem
import Derived.Lib.SlicesS
import Derived.Lib.ItoaLen
import Derived.Lib.OthersKept
import Derived.Lib.FrozenHead2
import Derived.Test.YtcmlcmokjgkciaaGreatDoorProg
import Derived.Test.YtcmlcmokjgkciaaGreatDoorJTreeT
import Derived.Test.YtcmlcmokjgkciaaGreatDoorJPrsB
import Derived.Test.YtcmlcmokjgkciaaGreatDoorJBase
namespace Go.Proofs.YtcmlcmokjgkciaaGreatDoor
open Go.Shelf
def Sh.laysM171_ren : Go.Shelf.Ren := ⟨fun | 171 => 7 | 243 => 14 | 246 => 24 | 283 => 52 | 284 => 53 | 285 => 54 | 286 => 55 | 129 => 89 | 317 => 88 | 318 => 90 | 319 => 91 | 320 => 92 | 337 => 129 | 338 => 130 | n => n, fun | 3 => 3 | 9 => 9 | 2 => 2 | 4 => 4 | 171 => 110 | 0 => 0 | 53 => 111 | 37 => 114 | 5 => 5 | 173 => 115 | 212 => 148 | 51 => 149 | 20 => 20 | 213 => 150 | 46 => 146 | 232 => 196 | 233 => 197 | n => n, fun | 17 => 1 | 18 => 5 | 19 => 6 | n => n⟩
theorem Sh.laysM171 : Go.Proofs.LaysM.n171 Tryz.prog Sh.laysM171_ren := {
  mixed := by kernel_rfl
  f129 := Tryz.func89.trans (congrArg some (by kernel_rfl))
  f171 := Tryz.func7.trans (congrArg some (by kernel_rfl))
  f243 := Tryz.func14.trans (congrArg some (by kernel_rfl))
  f246 := Tryz.func24.trans (congrArg some (by kernel_rfl))
  f283 := Tryz.func52.trans (congrArg some (by kernel_rfl))
  f284 := Tryz.func53.trans (congrArg some (by kernel_rfl))
  f285 := Tryz.func54.trans (congrArg some (by kernel_rfl))
  f286 := Tryz.func55.trans (congrArg some (by kernel_rfl))
  f317 := Tryz.func88.trans (congrArg some (by kernel_rfl))
  f318 := Tryz.func90.trans (congrArg some (by kernel_rfl))
  f319 := Tryz.func91.trans (congrArg some (by kernel_rfl))
  f320 := Tryz.func92.trans (congrArg some (by kernel_rfl))
  f337 := Tryz.func129.trans (congrArg some (by kernel_rfl))
  f338 := Tryz.func130.trans (congrArg some (by kernel_rfl))
  t0 := Tryz.underlying0
  a0 := Tryz.isAgg0
  z0 := Tryz.sizeOf0
  v0 := Tryz.zeroValue0
  t2 := Tryz.underlying2
  a2 := Tryz.isAgg2
  z2 := Tryz.sizeOf2
  v2 := Tryz.zeroValue2
  t3 := Tryz.underlying3
  a3 := Tryz.isAgg3
  z3 := Tryz.sizeOf3
  v3 := Tryz.zeroValue3
  t4 := Tryz.underlying4
  a4 := Tryz.isAgg4
  z4 := Tryz.sizeOf4
  v4 := Tryz.zeroValue4
  t5 := Tryz.underlying5
  a5 := Tryz.isAgg5
  z5 := Tryz.sizeOf5
  v5 := Tryz.zeroValue5
  t9 := Tryz.underlying9
  a9 := Tryz.isAgg9
  z9 := Tryz.sizeOf9
  v9 := Tryz.zeroValue9
  t20 := Tryz.underlying20
  a20 := Tryz.isAgg20
  z20 := Tryz.sizeOf20
  v20 := Tryz.zeroValue20
  t37 := Tryz.underlying114
  a37 := Tryz.isAgg114
  z37 := Tryz.sizeOf114
  v37 := Tryz.zeroValue114
  t46 := Tryz.underlying146
  a46 := Tryz.isAgg146
  z46 := Tryz.sizeOf146
  v46 := Tryz.zeroValue146
  t51 := Tryz.underlying149
  a51 := Tryz.isAgg149
  z51 := Tryz.sizeOf149
  v51 := Tryz.zeroValue149
  t53 := Tryz.underlying111
  a53 := Tryz.isAgg111
  z53 := Tryz.sizeOf111
  v53 := Tryz.zeroValue111
  t171 := Tryz.underlying110
  a171 := Tryz.isAgg110
  z171 := Tryz.sizeOf110
  v171 := Tryz.zeroValue110
  t173 := Tryz.underlying115
  a173 := Tryz.isAgg115
  z173 := Tryz.sizeOf115
  v173 := Tryz.zeroValue115
  t212 := Tryz.underlying148
  a212 := Tryz.isAgg148
  z212 := Tryz.sizeOf148
  v212 := Tryz.zeroValue148
  t213 := Tryz.underlying150
  a213 := Tryz.isAgg150
  z213 := Tryz.sizeOf150
  t232 := Tryz.underlying196
  a232 := Tryz.isAgg196
  z232 := Tryz.sizeOf196
  v232 := Tryz.zeroValue196
  t233 := Tryz.underlying197
  a233 := Tryz.isAgg197
  z233 := Tryz.sizeOf197
  v233 := Tryz.zeroValue197
  g17 := by kernel_rfl
  g18 := by kernel_rfl
  g19 := by kernel_rfl
  i0 := by kernel_rfl
  i2 := by kernel_rfl
  i3 := by kernel_rfl
  i4 := by kernel_rfl
  i5 := by kernel_rfl
  i9 := by kernel_rfl
  i20 := by kernel_rfl
  i37 := by kernel_rfl
  i46 := by kernel_rfl
  i51 := by kernel_rfl
  i53 := by kernel_rfl
  i171 := by kernel_rfl
  i173 := by kernel_rfl
  i212 := by kernel_rfl
  i232 := by kernel_rfl
  i233 := by kernel_rfl
  m17 := by kernel_rfl
  m18 := by kernel_rfl
  m19 := by kernel_rfl }
open Go.RowKit Go.Sort Go.Lib in
theorem Sh.strconv_Itoa (n : Int) (h0 : -9223372036854775808 ≤ n) (h1 : n ≤ 9223372036854775807) (w : World) (htab : Lib.TabIs Tryz.prog w "internal/strconv.uint64pow10" .u64 Lib.pow10Tab) :
    Calls Tryz.prog 7 #[.int .i64 n] w fun e w' => e = .returned (.string ⟨(Lib.itoa n).toArray⟩) ∧ ∃ k os, w' = grow (w.drewN k) os := Any.strconv_Itoa Sh.laysM171 n h0 h1 w htab
end Go.Proofs.YtcmlcmokjgkciaaGreatDoor

namespace Go.Proofs.YtcmlcmokjgkciaaGreatDoor
set_option linter.unusedVariables false
set_option linter.unusedSimpArgs false
open Go.ChangeShapes Go.WideShapes Go.ChangeAt Go.RowKit

/-- a text, cut at the first c. -/
def cutB (c : UInt8) : List UInt8 → List UInt8 × List UInt8 × Bool
  | [] => ([], [], false)
  | x :: l => if x = c then ([], l, true) else (x :: (cutB c l).1, (cutB c l).2.1, (cutB c l).2.2)
theorem cut_one (c : UInt8) : ∀ l : List UInt8, Lib.cut l [c] = cutB c l
  | [] => rfl
  | x :: l => by
    have ih := cut_one c l
    have hge := Lib.index_ge l [c]
    unfold Lib.cut at ih ⊢
    have e : Lib.index (x :: l) [c] = if [c].isPrefixOf (x :: l) then 0 else if Lib.index l [c] == -1 then -1 else Lib.index l [c] + 1 := rfl
    have e2 : [c].isPrefixOf (x :: l) = (c == x) := by simp [List.isPrefixOf]
    rw [e, e2]
    by_cases h : x = c
    · subst h
      simp [cutB]
    · have h' : (c == x) = false := by rw [beq_eq_false_iff_ne]; exact fun e => h e.symm
      rw [h']
      show _ = if x = c then _ else _
      rw [if_neg h, ← ih]
      by_cases h2 : Lib.index l [c] = -1
      · simp [h2]
      · have h3 : (Lib.index l [c] == -1) = false := by rw [beq_eq_false_iff_ne]; exact h2
        have h4 : 0 ≤ Lib.index l [c] := by omega
        have h5 : 0 ≤ Lib.index l [c] + 1 := by omega
        have h6 : (Lib.index l [c] + 1).toNat = (Lib.index l [c]).toNat + 1 := by omega
        simp only [h3, Bool.false_eq_true, if_false, if_pos h4, if_pos h5, h6, List.take_succ_cons, List.length_singleton, List.drop_succ_cons]
theorem spl_cut (c : UInt8) : ∀ (l cur : List UInt8), splB c cur l = if (cutB c l).2.2 then (cur ++ (cutB c l).1) :: splB c [] (cutB c l).2.1 else [cur ++ (cutB c l).1]
  | [], cur => by simp [splB, cutB]
  | x :: l, cur => by
    show (if x = c then _ else _) = _
    have e : cutB c (x :: l) = if x = c then ([], l, true) else (x :: (cutB c l).1, (cutB c l).2.1, (cutB c l).2.2) := rfl
    rw [e]
    by_cases h : x = c
    · simp [h]
    · rw [if_neg h, if_neg h, spl_cut c l (cur ++ [x])]
      simp
theorem spl_ne (c : UInt8) (cur l : List UInt8) : splB c cur l ≠ [] := by
  rw [spl_cut]
  split <;> simp
end Go.Proofs.YtcmlcmokjgkciaaGreatDoor
