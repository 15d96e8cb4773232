/-
  The contract of slices.BinarySearch at ints, laid (the shelf's tool lay-plain printed the laying; the numbers by name).
-/
import Derived.Shelf.Slices.SearchI
import Derived.Shelf.Slices.Empties
import Derived.Shelf.Lays2
import Derived.Test.YtdpbedkppomffaaDoorProg
namespace Go.Proofs.YtdpbedkppomffaaDoor
open Go.Shelf
def Sh.laysNm225_ren : Go.Shelf.Ren := ⟨fun | 25 => 72 | 31 => 107 | 32 => 108 | 37 => 144 | n => n, fun | 22 => 77 | 3 => 3 | 4 => 4 | 40 => 143 | 0 => 0 | n => n, fun | n => n⟩
theorem Sh.laysNm225 : Go.Proofs.Lays2.n25 Tryd.prog Sh.laysNm225_ren := {
  mixed := by kernel_rfl
  f25 := Tryd.func72.trans (congrArg some (by kernel_rfl))
  f31 := Tryd.func107.trans (congrArg some (by kernel_rfl))
  f32 := Tryd.func108.trans (congrArg some (by kernel_rfl))
  f37 := Tryd.func144.trans (congrArg some (by kernel_rfl))
  t0 := Tryd.underlying0
  a0 := Tryd.isAgg0
  z0 := Tryd.sizeOf0
  v0 := Tryd.zeroValue0
  t3 := Tryd.underlying3
  a3 := Tryd.isAgg3
  z3 := Tryd.sizeOf3
  v3 := Tryd.zeroValue3
  t4 := Tryd.underlying4
  a4 := Tryd.isAgg4
  z4 := Tryd.sizeOf4
  v4 := Tryd.zeroValue4
  t22 := Tryd.underlying77
  a22 := Tryd.isAgg77
  z22 := Tryd.sizeOf77
  v22 := Tryd.zeroValue77
  t40 := Tryd.underlying143
  a40 := Tryd.isAgg143
  z40 := Tryd.sizeOf143
  v40 := Tryd.zeroValue143 }
open Go.RowKit Go.Lib in
theorem Sh.slices_BinarySearch_int (b off n c : Nat) (zs : List Int) (x : Int) (w : World) (hz : n ≤ zs.length) (hbig : n < 4611686018427387904) (hc : ∀ j, j < zs.length → w.cell? ⟨b, off + j, none⟩ = some (.int .i64 (zs.getD j 0))) (hs : (zs.take n).Pairwise (· ≤ ·)) :
    Calls Tryd.prog 72 #[.slice (some ⟨b, off, none⟩) n c, .int .i64 x] w fun e w' => e = .returned (.tuple #[.int .i64 ((zs.take n).countP (· < x) : Nat), .bool ((zs.take n).contains x)]) ∧ ∃ q, w' = w.drewN q := Any.slices_BinarySearch_int Sh.laysNm225 b off n c zs x w hz hbig hc hs
open Go.RowKit Go.Lib in
theorem Sh.slices_BinarySearch_int_empty (a : Option Addr) (c : Nat) (x : Int) (w : World) :
    Calls Tryd.prog 72 #[.slice a 0 c, .int .i64 x] w fun e w' => e = .returned (.tuple #[.int .i64 0, .bool false]) ∧ w' = w := Any.slices_BinarySearch_int_empty Sh.laysNm225 a c x w
end Go.Proofs.YtdpbedkppomffaaDoor
