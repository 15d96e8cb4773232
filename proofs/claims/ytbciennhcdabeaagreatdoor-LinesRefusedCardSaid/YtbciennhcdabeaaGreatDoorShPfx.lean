/-
  The contract of strings.CutPrefix, laid (the shelf's tool lay-plain printed the laying; the numbers by name).
-/
import Derived.Shelf.Small.Wraps
import Derived.Shelf.Lays
import Derived.Test.YtbciennhcdabeaaGreatDoorProg
namespace Go.Proofs.YtbciennhcdabeaaGreatDoor
open Go.Shelf
def Sh.lays103_ren : Go.Shelf.Ren := ⟨fun | 103 => 93 | 210 => 112 | 206 => 57 | n => n, fun | 9 => 9 | 4 => 4 | 24 => 137 | 3 => 3 | n => n, fun | n => n⟩
theorem Sh.lays103 : Go.Proofs.Lays.n103 Tryz.prog Sh.lays103_ren := {
  mixed := by kernel_rfl
  f103 := Tryz.func93.trans (congrArg some (by kernel_rfl))
  f206 := Tryz.func57.trans (congrArg some (by kernel_rfl))
  f210 := Tryz.func112.trans (congrArg some (by kernel_rfl))
  t3 := Tryz.underlying3
  a3 := Tryz.isAgg3
  z3 := Tryz.sizeOf3
  v3 := Tryz.zeroValue3
  t4 := Tryz.underlying4
  a4 := Tryz.isAgg4
  z4 := Tryz.sizeOf4
  v4 := Tryz.zeroValue4
  t9 := Tryz.underlying9
  a9 := Tryz.isAgg9
  z9 := Tryz.sizeOf9
  v9 := Tryz.zeroValue9
  t24 := Tryz.underlying137
  a24 := Tryz.isAgg137
  z24 := Tryz.sizeOf137
  v24 := Tryz.zeroValue137 }
open Go.RowKit in
theorem Sh.strings_CutPrefix (s p : ByteArray) (w : World) :
    Calls Tryz.prog 93 #[.string s, .string p] w fun e w' => e = .returned (.tuple #[.string ⟨(Lib.trimPrefix s.data.toList p.data.toList).toArray⟩, .bool (Lib.hasPrefix s.data.toList p.data.toList)]) ∧ w' = w := Any.strings_CutPrefix Sh.lays103 s p w
end Go.Proofs.YtbciennhcdabeaaGreatDoor
