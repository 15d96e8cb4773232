/-
  The contract of strings.CutPrefix, laid (the shelf's tool lay-plain printed the laying; the numbers by name).
-/
import Derived.Shelf.Small.Wraps
import Derived.Shelf.Lays
import Derived.Test.YtbciennhcdabeaaDoorProg
namespace Go.Proofs.YtbciennhcdabeaaDoor
open Go.Shelf
def Sh.lays103_ren : Go.Shelf.Ren := ⟨fun | 103 => 57 | 210 => 76 | 206 => 84 | n => n, fun | 9 => 9 | 4 => 4 | 24 => 100 | 3 => 3 | n => n, fun | n => n⟩
theorem Sh.lays103 : Go.Proofs.Lays.n103 Tryd.prog Sh.lays103_ren := {
  mixed := by kernel_rfl
  f103 := Tryd.func57.trans (congrArg some (by kernel_rfl))
  f206 := Tryd.func84.trans (congrArg some (by kernel_rfl))
  f210 := Tryd.func76.trans (congrArg some (by kernel_rfl))
  t3 := Tryd.underlying3
  a3 := Tryd.isAgg3
  z3 := Tryd.sizeOf3
  v3 := Tryd.zeroValue3
  t4 := Tryd.underlying4
  a4 := Tryd.isAgg4
  z4 := Tryd.sizeOf4
  v4 := Tryd.zeroValue4
  t9 := Tryd.underlying9
  a9 := Tryd.isAgg9
  z9 := Tryd.sizeOf9
  v9 := Tryd.zeroValue9
  t24 := Tryd.underlying100
  a24 := Tryd.isAgg100
  z24 := Tryd.sizeOf100
  v24 := Tryd.zeroValue100 }
open Go.RowKit in
theorem Sh.strings_CutPrefix (s p : ByteArray) (w : World) :
    Calls Tryd.prog 57 #[.string s, .string p] w fun e w' => e = .returned (.tuple #[.string ⟨(Lib.trimPrefix s.data.toList p.data.toList).toArray⟩, .bool (Lib.hasPrefix s.data.toList p.data.toList)]) ∧ w' = w := Any.strings_CutPrefix Sh.lays103 s p w
end Go.Proofs.YtbciennhcdabeaaDoor
