/-
  The contracts of strings.Count, laid (the shelf's tool lay-plain printed the laying; the numbers by name).
-/
import Derived.Shelf.Strings.Count
import Derived.Shelf.Lays
import Derived.Test.YtbciennhcdabeaaDoorProg
namespace Go.Proofs.YtbciennhcdabeaaDoor
open Go.Shelf
def Sh.lays138_ren : Go.Shelf.Ren := ⟨fun | 138 => 6 | 195 => 16 | 218 => 17 | 143 => 18 | 219 => 30 | 217 => 45 | 225 => 46 | 224 => 47 | 267 => 48 | 266 => 67 | 314 => 68 | n => n, fun | 9 => 9 | 3 => 3 | 4 => 4 | 5 => 5 | 0 => 0 | 46 => 84 | 146 => 104 | 51 => 103 | n => n, fun | 1 => 0 | n => n⟩
theorem Sh.lays138 : Go.Proofs.Lays.n138 Tryd.prog Sh.lays138_ren := {
  mixed := by kernel_rfl
  f138 := Tryd.func6.trans (congrArg some (by kernel_rfl))
  f143 := Tryd.func18.trans (congrArg some (by kernel_rfl))
  f195 := Tryd.func16.trans (congrArg some (by kernel_rfl))
  f217 := Tryd.func45.trans (congrArg some (by kernel_rfl))
  f218 := Tryd.func17.trans (congrArg some (by kernel_rfl))
  f219 := Tryd.func30.trans (congrArg some (by kernel_rfl))
  f224 := Tryd.func47.trans (congrArg some (by kernel_rfl))
  f225 := Tryd.func46.trans (congrArg some (by kernel_rfl))
  f266 := Tryd.func67.trans (congrArg some (by kernel_rfl))
  f267 := Tryd.func48.trans (congrArg some (by kernel_rfl))
  f314 := Tryd.func68.trans (congrArg some (by kernel_rfl))
  t0 := Tryd.underlying0
  a0 := Tryd.isAgg0
  z0 := Tryd.sizeOf0
  v0 := Tryd.zeroValue0
  t3 := Tryd.underlying3
  a3 := Tryd.isAgg3
  z3 := Tryd.sizeOf3
  v3 := Tryd.zeroValue3
  t4 := Tryd.underlying4
  a4 := Tryd.isAgg4
  z4 := Tryd.sizeOf4
  v4 := Tryd.zeroValue4
  t5 := Tryd.underlying5
  a5 := Tryd.isAgg5
  z5 := Tryd.sizeOf5
  v5 := Tryd.zeroValue5
  t9 := Tryd.underlying9
  a9 := Tryd.isAgg9
  z9 := Tryd.sizeOf9
  v9 := Tryd.zeroValue9
  t46 := Tryd.underlying84
  a46 := Tryd.isAgg84
  z46 := Tryd.sizeOf84
  v46 := Tryd.zeroValue84
  t51 := Tryd.underlying103
  a51 := Tryd.isAgg103
  z51 := Tryd.sizeOf103
  v51 := Tryd.zeroValue103
  t146 := Tryd.underlying104
  a146 := Tryd.isAgg104
  z146 := Tryd.sizeOf104
  v146 := Tryd.zeroValue104
  g1 := by kernel_rfl }
open Go.RowKit Go.Lib in
theorem Sh.strings_Count_one (s : ByteArray) (c : UInt8) (w : World) :
    Calls Tryd.prog 6 #[.string s, .string ⟨#[c]⟩] w fun e w' => e = .returned (.int .i64 (Lib.countByte s.data.toList c)) ∧ w' = w := Any.strings_Count_one Sh.lays138 s c w
open Go.RowKit Go.Lib in
theorem Sh.strings_Count (s sub : ByteArray) (m : Int) (w : World) (hs : s.size < 4294967281) (hm : w.cell? ⟨0, 0, none⟩ = some (.int .i64 m)) (h2 : 2 ≤ sub.size) :
    Calls Tryd.prog 6 #[.string s, .string sub] w fun e w' => e = .returned (.int .i64 (Lib.countB s sub)) ∧ w' = w := Any.strings_Count Sh.lays138 s sub m w hs hm h2
end Go.Proofs.YtbciennhcdabeaaDoor
