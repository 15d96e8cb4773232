/-
  The contracts of strings.Count, laid (the shelf's tool lay-plain printed the laying; the numbers by name).
-/
import Derived.Shelf.Strings.Count
import Derived.Shelf.Lays
import Derived.Test.YtbciennhcdabeaaGreatDoorProg
namespace Go.Proofs.YtbciennhcdabeaaGreatDoor
open Go.Shelf
def Sh.lays138_ren : Go.Shelf.Ren := ⟨fun | 138 => 11 | 195 => 31 | 218 => 32 | 143 => 33 | 219 => 62 | 217 => 85 | 225 => 86 | 224 => 87 | 267 => 88 | 266 => 108 | 314 => 109 | n => n, fun | 9 => 9 | 3 => 3 | 4 => 4 | 5 => 5 | 0 => 0 | 46 => 66 | 146 => 109 | 51 => 108 | n => n, fun | 1 => 0 | n => n⟩
theorem Sh.lays138 : Go.Proofs.Lays.n138 Tryz.prog Sh.lays138_ren := {
  mixed := by kernel_rfl
  f138 := Tryz.func11.trans (congrArg some (by kernel_rfl))
  f143 := Tryz.func33.trans (congrArg some (by kernel_rfl))
  f195 := Tryz.func31.trans (congrArg some (by kernel_rfl))
  f217 := Tryz.func85.trans (congrArg some (by kernel_rfl))
  f218 := Tryz.func32.trans (congrArg some (by kernel_rfl))
  f219 := Tryz.func62.trans (congrArg some (by kernel_rfl))
  f224 := Tryz.func87.trans (congrArg some (by kernel_rfl))
  f225 := Tryz.func86.trans (congrArg some (by kernel_rfl))
  f266 := Tryz.func108.trans (congrArg some (by kernel_rfl))
  f267 := Tryz.func88.trans (congrArg some (by kernel_rfl))
  f314 := Tryz.func109.trans (congrArg some (by kernel_rfl))
  t0 := Tryz.underlying0
  a0 := Tryz.isAgg0
  z0 := Tryz.sizeOf0
  v0 := Tryz.zeroValue0
  t3 := Tryz.underlying3
  a3 := Tryz.isAgg3
  z3 := Tryz.sizeOf3
  v3 := Tryz.zeroValue3
  t4 := Tryz.underlying4
  a4 := Tryz.isAgg4
  z4 := Tryz.sizeOf4
  v4 := Tryz.zeroValue4
  t5 := Tryz.underlying5
  a5 := Tryz.isAgg5
  z5 := Tryz.sizeOf5
  v5 := Tryz.zeroValue5
  t9 := Tryz.underlying9
  a9 := Tryz.isAgg9
  z9 := Tryz.sizeOf9
  v9 := Tryz.zeroValue9
  t46 := Tryz.underlying66
  a46 := Tryz.isAgg66
  z46 := Tryz.sizeOf66
  v46 := Tryz.zeroValue66
  t51 := Tryz.underlying108
  a51 := Tryz.isAgg108
  z51 := Tryz.sizeOf108
  v51 := Tryz.zeroValue108
  t146 := Tryz.underlying109
  a146 := Tryz.isAgg109
  z146 := Tryz.sizeOf109
  v146 := Tryz.zeroValue109
  g1 := by kernel_rfl }
open Go.RowKit Go.Lib in
theorem Sh.strings_Count_one (s : ByteArray) (c : UInt8) (w : World) :
    Calls Tryz.prog 11 #[.string s, .string ⟨#[c]⟩] w fun e w' => e = .returned (.int .i64 (Lib.countByte s.data.toList c)) ∧ w' = w := Any.strings_Count_one Sh.lays138 s c w
open Go.RowKit Go.Lib in
theorem Sh.strings_Count (s sub : ByteArray) (m : Int) (w : World) (hs : s.size < 4294967281) (hm : w.cell? ⟨0, 0, none⟩ = some (.int .i64 m)) (h2 : 2 ≤ sub.size) :
    Calls Tryz.prog 11 #[.string s, .string sub] w fun e w' => e = .returned (.int .i64 (Lib.countB s sub)) ∧ w' = w := Any.strings_Count Sh.lays138 s sub m w hs hm h2
end Go.Proofs.YtbciennhcdabeaaGreatDoor
