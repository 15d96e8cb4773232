/-
  The contract of slices.BinarySearch at ints, laid (the shelf's tool lay-plain printed the laying; the numbers by name).
-/
import Derived.Shelf.Slices.SearchI
import Derived.Shelf.Slices.Empties
import Derived.Shelf.Lays2
import Derived.Test.YtdpbedkppomffaaGreatDoorProg
namespace Go.Proofs.YtdpbedkppomffaaGreatDoor
open Go.Shelf
def Sh.laysNm225_ren : Go.Shelf.Ren := ⟨fun | 25 => 62 | 31 => 117 | 32 => 118 | 37 => 167 | n => n, fun | 22 => 64 | 3 => 3 | 4 => 4 | 40 => 103 | 0 => 0 | n => n, fun | n => n⟩
theorem Sh.laysNm225 : Go.Proofs.Lays2.n25 Tryz.prog Sh.laysNm225_ren := {
  mixed := by kernel_rfl
  f25 := Tryz.func62.trans (congrArg some (by kernel_rfl))
  f31 := Tryz.func117.trans (congrArg some (by kernel_rfl))
  f32 := Tryz.func118.trans (congrArg some (by kernel_rfl))
  f37 := Tryz.func167.trans (congrArg some (by kernel_rfl))
  t0 := Tryz.underlying0
  a0 := Tryz.isAgg0
  z0 := Tryz.sizeOf0
  v0 := Tryz.zeroValue0
  t3 := Tryz.underlying3
  a3 := Tryz.isAgg3
  z3 := Tryz.sizeOf3
  v3 := Tryz.zeroValue3
  t4 := Tryz.underlying4
  a4 := Tryz.isAgg4
  z4 := Tryz.sizeOf4
  v4 := Tryz.zeroValue4
  t22 := Tryz.underlying64
  a22 := Tryz.isAgg64
  z22 := Tryz.sizeOf64
  v22 := Tryz.zeroValue64
  t40 := Tryz.underlying103
  a40 := Tryz.isAgg103
  z40 := Tryz.sizeOf103
  v40 := Tryz.zeroValue103 }
open Go.RowKit Go.Lib in
theorem Sh.slices_BinarySearch_int (b off n c : Nat) (zs : List Int) (x : Int) (w : World) (hz : n ≤ zs.length) (hbig : n < 4611686018427387904) (hc : ∀ j, j < zs.length → w.cell? ⟨b, off + j, none⟩ = some (.int .i64 (zs.getD j 0))) (hs : (zs.take n).Pairwise (· ≤ ·)) :
    Calls Tryz.prog 62 #[.slice (some ⟨b, off, none⟩) n c, .int .i64 x] w fun e w' => e = .returned (.tuple #[.int .i64 ((zs.take n).countP (· < x) : Nat), .bool ((zs.take n).contains x)]) ∧ ∃ q, w' = w.drewN q := Any.slices_BinarySearch_int Sh.laysNm225 b off n c zs x w hz hbig hc hs
open Go.RowKit Go.Lib in
theorem Sh.slices_BinarySearch_int_empty (a : Option Addr) (c : Nat) (x : Int) (w : World) :
    Calls Tryz.prog 62 #[.slice a 0 c, .int .i64 x] w fun e w' => e = .returned (.tuple #[.int .i64 0, .bool false]) ∧ w' = w := Any.slices_BinarySearch_int_empty Sh.laysNm225 a c x w
end Go.Proofs.YtdpbedkppomffaaGreatDoor
