/-
  The contract of strings.FieldsFunc, laid (the shelf's tool lay-plain printed the laying; the numbers by name).
-/
import Derived.Shelf.Strings.FieldsFuncGrows
import Derived.Shelf.Lays
import Derived.Test.YtbciennhcdabeaaGreatDoorProg
namespace Go.Proofs.YtbciennhcdabeaaGreatDoor
open Go.Shelf
def Sh.lays229_ren : Go.Shelf.Ren := ⟨fun | 229 => 65 | n => n, fun | 9 => 9 | 40 => 119 | 31 => 34 | 152 => 132 | 3 => 3 | 0 => 0 | 4 => 4 | 21 => 21 | 154 => 134 | n => n, fun | n => n⟩
theorem Sh.lays229 : Go.Proofs.Lays.n229 Tryz.prog Sh.lays229_ren := {
  mixed := by kernel_rfl
  f229 := Tryz.func65.trans (congrArg some (by kernel_rfl))
  t0 := Tryz.underlying0
  a0 := Tryz.isAgg0
  z0 := Tryz.sizeOf0
  v0 := Tryz.zeroValue0
  t3 := Tryz.underlying3
  a3 := Tryz.isAgg3
  z3 := Tryz.sizeOf3
  v3 := Tryz.zeroValue3
  t4 := Tryz.underlying4
  a4 := Tryz.isAgg4
  z4 := Tryz.sizeOf4
  v4 := Tryz.zeroValue4
  t9 := Tryz.underlying9
  a9 := Tryz.isAgg9
  z9 := Tryz.sizeOf9
  v9 := Tryz.zeroValue9
  t21 := Tryz.underlying21
  a21 := Tryz.isAgg21
  z21 := Tryz.sizeOf21
  v21 := Tryz.zeroValue21
  t31 := Tryz.underlying34
  a31 := Tryz.isAgg34
  z31 := Tryz.sizeOf34
  v31 := Tryz.zeroValue34
  t40 := Tryz.underlying119
  a40 := Tryz.isAgg119
  z40 := Tryz.sizeOf119
  v40 := Tryz.zeroValue119
  t152 := Tryz.underlying132
  a152 := Tryz.isAgg132
  z152 := Tryz.sizeOf132
  v152 := Tryz.zeroValue132
  t154 := Tryz.underlying134
  a154 := Tryz.isAgg134
  z154 := Tryz.sizeOf134
  v154 := Tryz.zeroValue134 }
open Go.RowKit Go.Lib in
theorem Sh.strings_FieldsFunc_grows (g : Nat) (lb : Array Value) (eg : ∀ args w, (callFunc g args).run Tryz.prog w = .ok (.enter g args) w) (p : Nat → Bool) (s : ByteArray) (w : World) (hs : s.size ≤ 4294967296) (hp : PredGrows Tryz.prog g lb p w) :
    Calls Tryz.prog 65 #[.string s, .func (.func g) #[] lb] w fun e w' => ∃ A, e = .returned (.slice (some ⟨A, 0, none⟩) (Lib.goFieldsP p s).length (Lib.goFieldsP p s).length) ∧ w.heap.size ≤ A ∧
      w'.ownsRow w.heap.size 9 1 (.slice (some ⟨A, 0, none⟩) (Lib.goFieldsP p s).length (Lib.goFieldsP p s).length) (Lib.goFieldsP p s).length ((Lib.goFieldsP p s).map Value.string) ∧ Below w.heap.size w w' := Any.strings_FieldsFunc_grows Sh.lays229 g lb eg p s w hs hp (by kernel_rfl) (by kernel_rfl)
end Go.Proofs.YtbciennhcdabeaaGreatDoor
