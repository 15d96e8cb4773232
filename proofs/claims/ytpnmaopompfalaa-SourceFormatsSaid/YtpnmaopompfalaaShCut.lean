/-
  The library's strings.Cut: its contract, laid (the shelf's tool lay-plain printed the laying; the numbers by name).
-/
import Derived.Shelf.LaysM
import Derived.Shelf.Strings.Shaped
import Derived.Shelf.Strings.Cut
import Derived.Test.YtpnmaopompfalaaMxl
import Derived.Test.YtpnmaopompfalaaProg
namespace Go.Proofs.Ytpnmaopompfalaa
open Go.Shelf
def Sh.laysM145_ren : Go.Shelf.Ren := ⟨fun | 145 => 85 | 220 => 109 | 219 => 117 | 217 => 104 | 225 => 118 | 224 => 119 | 267 => 120 | 266 => 112 | 314 => 121 | n => n, fun | 9 => 9 | 4 => 4 | 59 => 113 | 3 => 3 | 5 => 5 | 46 => 139 | 146 => 145 | 51 => 144 | n => n, fun | 1 => 0 | n => n⟩
theorem Sh.laysM145 : Go.Proofs.LaysM.n145 Try.prog Sh.laysM145_ren := {
  mixed := by kernel_rfl
  f145 := Try.func85.trans (congrArg some (by kernel_rfl))
  f217 := Try.func104.trans (congrArg some (by kernel_rfl))
  f219 := Try.func117.trans (congrArg some (by kernel_rfl))
  f220 := Try.func109.trans (congrArg some (by kernel_rfl))
  f224 := Try.func119.trans (congrArg some (by kernel_rfl))
  f225 := Try.func118.trans (congrArg some (by kernel_rfl))
  f266 := Try.func112.trans (congrArg some (by kernel_rfl))
  f267 := Try.func120.trans (congrArg some (by kernel_rfl))
  f314 := Try.func121.trans (congrArg some (by kernel_rfl))
  t3 := Try.underlying3
  a3 := Try.isAgg3
  z3 := Try.sizeOf3
  v3 := Try.zeroValue3
  t4 := Try.underlying4
  a4 := Try.isAgg4
  z4 := Try.sizeOf4
  v4 := Try.zeroValue4
  t5 := Try.underlying5
  a5 := Try.isAgg5
  z5 := Try.sizeOf5
  v5 := Try.zeroValue5
  t9 := Try.underlying9
  a9 := Try.isAgg9
  z9 := Try.sizeOf9
  v9 := Try.zeroValue9
  t46 := Try.underlying139
  a46 := Try.isAgg139
  z46 := Try.sizeOf139
  v46 := Try.zeroValue139
  t51 := Try.underlying144
  a51 := Try.isAgg144
  z51 := Try.sizeOf144
  v51 := Try.zeroValue144
  t59 := Try.underlying113
  a59 := Try.isAgg113
  z59 := Try.sizeOf113
  v59 := Try.zeroValue113
  t146 := Try.underlying145
  a146 := Try.isAgg145
  z146 := Try.sizeOf145
  v146 := Try.zeroValue145
  g1 := by kernel_rfl
  i3 := by kernel_rfl
  i4 := by kernel_rfl
  i5 := by kernel_rfl
  i9 := by kernel_rfl
  i46 := by kernel_rfl
  i51 := by kernel_rfl
  i59 := by kernel_rfl
  i146 := by kernel_rfl
  m1 := by kernel_rfl
  s1_3 := fun w h => Go.Proofs.cell_of_shapedOpen_int (zero := #[.int .i64 0]) (t := 3) h (of_decide_eq_true (by kernel_rfl)) (by kernel_rfl) rfl (by kernel_rfl) (by kernel_rfl) Try.underlying3 }
open Go.RowKit Go.Lib in
/-- strings.Cut, over the library's variable. -/
theorem cut_any (s sep : ByteArray) (w : World) (h : MxL w) (hs : s.size < 4294967281) :
    Calls Try.prog 85 #[.string s, .string sep] w fun e w' => e = .returned (.tuple #[.string ⟨(Lib.cut s.data.toList sep.data.toList).1.toArray⟩, .string ⟨(Lib.cut s.data.toList sep.data.toList).2.1.toArray⟩, .bool (Lib.cut s.data.toList sep.data.toList).2.2]) ∧ ∃ n, w' = w.drewN n := by
  obtain ⟨m, hm⟩ := h.1
  exact Any.strings_Cut Sh.laysM145.ton145 s sep m w hs hm
end Go.Proofs.Ytpnmaopompfalaa
