/-
  The library's strings.Cut: its contract, laid (the shelf's tool lay-plain printed the laying; the numbers by name).
-/
import Derived.Shelf.LaysM
import Derived.Shelf.Strings.Shaped
import Derived.Shelf.Strings.Cut
import Derived.Test.YtdpbedkppomffaaGreatDoorMxl
import Derived.Test.YtdpbedkppomffaaGreatDoorProg
namespace Go.Proofs.YtdpbedkppomffaaGreatDoor
open Go.Shelf
def Sh.laysM145_ren : Go.Shelf.Ren := ⟨fun | 145 => 70 | 220 => 129 | 219 => 109 | 217 => 158 | 225 => 159 | 224 => 160 | 267 => 161 | 266 => 196 | 314 => 197 | n => n, fun | 9 => 9 | 4 => 4 | 59 => 140 | 3 => 3 | 5 => 5 | 46 => 103 | 146 => 168 | 51 => 167 | n => n, fun | 1 => 0 | n => n⟩
theorem Sh.laysM145 : Go.Proofs.LaysM.n145 Tryz.prog Sh.laysM145_ren := {
  mixed := by kernel_rfl
  f145 := Tryz.func70.trans (congrArg some (by kernel_rfl))
  f217 := Tryz.func158.trans (congrArg some (by kernel_rfl))
  f219 := Tryz.func109.trans (congrArg some (by kernel_rfl))
  f220 := Tryz.func129.trans (congrArg some (by kernel_rfl))
  f224 := Tryz.func160.trans (congrArg some (by kernel_rfl))
  f225 := Tryz.func159.trans (congrArg some (by kernel_rfl))
  f266 := Tryz.func196.trans (congrArg some (by kernel_rfl))
  f267 := Tryz.func161.trans (congrArg some (by kernel_rfl))
  f314 := Tryz.func197.trans (congrArg some (by kernel_rfl))
  t3 := Tryz.underlying3
  a3 := Tryz.isAgg3
  z3 := Tryz.sizeOf3
  v3 := Tryz.zeroValue3
  t4 := Tryz.underlying4
  a4 := Tryz.isAgg4
  z4 := Tryz.sizeOf4
  v4 := Tryz.zeroValue4
  t5 := Tryz.underlying5
  a5 := Tryz.isAgg5
  z5 := Tryz.sizeOf5
  v5 := Tryz.zeroValue5
  t9 := Tryz.underlying9
  a9 := Tryz.isAgg9
  z9 := Tryz.sizeOf9
  v9 := Tryz.zeroValue9
  t46 := Tryz.underlying103
  a46 := Tryz.isAgg103
  z46 := Tryz.sizeOf103
  v46 := Tryz.zeroValue103
  t51 := Tryz.underlying167
  a51 := Tryz.isAgg167
  z51 := Tryz.sizeOf167
  v51 := Tryz.zeroValue167
  t59 := Tryz.underlying140
  a59 := Tryz.isAgg140
  z59 := Tryz.sizeOf140
  v59 := Tryz.zeroValue140
  t146 := Tryz.underlying168
  a146 := Tryz.isAgg168
  z146 := Tryz.sizeOf168
  v146 := Tryz.zeroValue168
  g1 := by kernel_rfl
  i3 := by kernel_rfl
  i4 := by kernel_rfl
  i5 := by kernel_rfl
  i9 := by kernel_rfl
  i46 := by kernel_rfl
  i51 := by kernel_rfl
  i59 := by kernel_rfl
  i146 := by kernel_rfl
  m1 := by kernel_rfl
  s1_3 := fun w h => Go.Proofs.cell_of_shapedOpen_int (zero := #[.int .i64 0]) (t := 3) h (of_decide_eq_true (by kernel_rfl)) (by kernel_rfl) rfl (by kernel_rfl) (by kernel_rfl) Tryz.underlying3 }
open Go.RowKit Go.Lib in
/-- strings.Cut, over the library's variable. -/
theorem cut_any (s sep : ByteArray) (w : World) (h : MxL w) (hs : s.size < 4294967281) :
    Calls Tryz.prog 70 #[.string s, .string sep] w fun e w' => e = .returned (.tuple #[.string ⟨(Lib.cut s.data.toList sep.data.toList).1.toArray⟩, .string ⟨(Lib.cut s.data.toList sep.data.toList).2.1.toArray⟩, .bool (Lib.cut s.data.toList sep.data.toList).2.2]) ∧ ∃ n, w' = w.drewN n := by
  obtain ⟨m, hm⟩ := h.1
  exact Any.strings_Cut Sh.laysM145.ton145 s sep m w hs hm
end Go.Proofs.YtdpbedkppomffaaGreatDoor
