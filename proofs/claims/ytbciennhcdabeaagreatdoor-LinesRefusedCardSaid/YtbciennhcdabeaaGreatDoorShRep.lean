/-
  The contract of strings.Repeat, laid (the shelf's tool lay-plain printed the laying; the numbers by name).
-/
import Derived.Shelf.Strings.Repeat
import Derived.Shelf.Strings.Builder1
import Derived.Shelf.Strings.Builder2
import Derived.Shelf.Lays
import Derived.Test.YtbciennhcdabeaaGreatDoorProg
namespace Go.Proofs.YtbciennhcdabeaaGreatDoor
open Go.Shelf
def Sh.lays105_ren : Go.Shelf.Ren := ⟨fun | 105 => 8 | 212 => 19 | 99 => 20 | 165 => 21 | 166 => 22 | 170 => 23 | 169 => 24 | 263 => 55 | 264 => 56 | 206 => 57 | 240 => 58 | 241 => 59 | 276 => 82 | 277 => 83 | n => n, fun | 9 => 9 | 3 => 3 | 4 => 4 | 20 => 20 | 0 => 0 | 46 => 66 | 109 => 67 | 5 => 5 | 72 => 73 | 76 => 77 | 51 => 108 | 146 => 109 | 53 => 111 | 148 => 112 | 70 => 70 | 37 => 71 | 75 => 76 | 127 => 114 | 164 => 126 | 80 => 80 | n => n, fun | n => n⟩
theorem Sh.lays105 : Go.Proofs.Lays.n105 Tryz.prog Sh.lays105_ren := {
  mixed := by kernel_rfl
  f99 := Tryz.func20.trans (congrArg some (by kernel_rfl))
  f105 := Tryz.func8.trans (congrArg some (by kernel_rfl))
  f165 := Tryz.func21.trans (congrArg some (by kernel_rfl))
  f166 := Tryz.func22.trans (congrArg some (by kernel_rfl))
  f169 := Tryz.func24.trans (congrArg some (by kernel_rfl))
  f170 := Tryz.func23.trans (congrArg some (by kernel_rfl))
  f206 := Tryz.func57.trans (congrArg some (by kernel_rfl))
  f212 := Tryz.func19.trans (congrArg some (by kernel_rfl))
  f240 := Tryz.func58.trans (congrArg some (by kernel_rfl))
  f241 := Tryz.func59.trans (congrArg some (by kernel_rfl))
  f263 := Tryz.func55.trans (congrArg some (by kernel_rfl))
  f264 := Tryz.func56.trans (congrArg some (by kernel_rfl))
  f276 := Tryz.func82.trans (congrArg some (by kernel_rfl))
  f277 := Tryz.func83.trans (congrArg some (by kernel_rfl))
  t0 := Tryz.underlying0
  a0 := Tryz.isAgg0
  z0 := Tryz.sizeOf0
  v0 := Tryz.zeroValue0
  t3 := Tryz.underlying3
  a3 := Tryz.isAgg3
  z3 := Tryz.sizeOf3
  v3 := Tryz.zeroValue3
  t4 := Tryz.underlying4
  a4 := Tryz.isAgg4
  z4 := Tryz.sizeOf4
  v4 := Tryz.zeroValue4
  t5 := Tryz.underlying5
  a5 := Tryz.isAgg5
  z5 := Tryz.sizeOf5
  v5 := Tryz.zeroValue5
  t9 := Tryz.underlying9
  a9 := Tryz.isAgg9
  z9 := Tryz.sizeOf9
  v9 := Tryz.zeroValue9
  t20 := Tryz.underlying20
  a20 := Tryz.isAgg20
  z20 := Tryz.sizeOf20
  v20 := Tryz.zeroValue20
  t37 := Tryz.underlying71
  a37 := Tryz.isAgg71
  z37 := Tryz.sizeOf71
  v37 := Tryz.zeroValue71
  t46 := Tryz.underlying66
  a46 := Tryz.isAgg66
  z46 := Tryz.sizeOf66
  v46 := Tryz.zeroValue66
  t51 := Tryz.underlying108
  a51 := Tryz.isAgg108
  z51 := Tryz.sizeOf108
  v51 := Tryz.zeroValue108
  t53 := Tryz.underlying111
  a53 := Tryz.isAgg111
  z53 := Tryz.sizeOf111
  v53 := Tryz.zeroValue111
  t70 := Tryz.underlying70
  a70 := Tryz.isAgg70
  z70 := Tryz.sizeOf70
  v70 := Tryz.zeroValue70
  t72 := Tryz.underlying73
  a72 := Tryz.isAgg73
  z72 := Tryz.sizeOf73
  v72 := Tryz.zeroValue73
  t75 := Tryz.underlying76
  a75 := Tryz.isAgg76
  z75 := Tryz.sizeOf76
  v75 := Tryz.zeroValue76
  t76 := Tryz.underlying77
  a76 := Tryz.isAgg77
  z76 := Tryz.sizeOf77
  v76 := Tryz.zeroValue77
  t109 := Tryz.underlying67
  a109 := Tryz.isAgg67
  z109 := Tryz.sizeOf67
  v109 := Tryz.zeroValue67
  t127 := Tryz.underlying114
  a127 := Tryz.isAgg114
  z127 := Tryz.sizeOf114
  v127 := Tryz.zeroValue114
  t146 := Tryz.underlying109
  a146 := Tryz.isAgg109
  z146 := Tryz.sizeOf109
  v146 := Tryz.zeroValue109
  t148 := Tryz.underlying112
  a148 := Tryz.isAgg112
  z148 := Tryz.sizeOf112
  v148 := Tryz.zeroValue112
  t164 := Tryz.underlying126
  a164 := Tryz.isAgg126
  z164 := Tryz.sizeOf126
  v164 := Tryz.zeroValue126 }
theorem Sh.Builder_Extra_105 : Builder.Extra Tryz.prog Sh.lays105_ren := {
  sizeBuilder := by kernel_rfl
  liesBuilder := by kernel_rfl
  t5 := Tryz.underlying5
  a5 := Tryz.isAgg5
  z5 := Tryz.sizeOf5
  v5 := Tryz.zeroValue5
  infoByte := by kernel_rfl
  cellsByte := by kernel_rfl
  sizeByte := by kernel_rfl
  neB5 := by decide }
open Go.RowKit Go.Lib in
theorem Sh.strings_Repeat (s : ByteArray) (c : Nat) (w : World) (hc : c ≤ 9223372036854775807) (hlen : s.size * c ≤ 140737488355328) :
    Calls Tryz.prog 8 #[.string s, .int .i64 c] w fun e w' => e = .returned (.string ⟨(Lib.repeatL s.data.toList c).toArray⟩) ∧ Below w.heap.size w w' := Any.strings_Repeat Sh.lays105 Sh.Builder_Extra_105 s c w hc hlen
end Go.Proofs.YtbciennhcdabeaaGreatDoor
