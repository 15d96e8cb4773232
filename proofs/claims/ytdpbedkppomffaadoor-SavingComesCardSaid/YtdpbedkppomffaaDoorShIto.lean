/-
  The shelf's contracts of strconv.Itoa, laid (the shelf's tool lay-plain printed the layings; the numbers by name).
-/
import Derived.Shelf.LaysM
import Derived.Shelf.Strconv.Itoa3
import Derived.Lib.AppendIntMem
import Derived.Test.YtdpbedkppomffaaDoorTreeT
import Derived.Test.YtdpbedkppomffaaDoorProg
namespace Go.Proofs.YtdpbedkppomffaaDoor
open Go.Shelf
def Sh.laysM171I_ren : Go.Shelf.Ren := ⟨fun | 171 => 11 | 243 => 27 | 246 => 69 | 283 => 103 | 284 => 104 | 285 => 105 | 286 => 106 | 129 => 140 | 317 => 139 | 318 => 141 | 319 => 142 | 320 => 143 | 337 => 161 | 338 => 162 | n => n, fun | 3 => 3 | 9 => 9 | 2 => 2 | 4 => 4 | 171 => 137 | 0 => 0 | 53 => 138 | 37 => 99 | 5 => 5 | 173 => 141 | 212 => 171 | 51 => 172 | 20 => 20 | 213 => 173 | 46 => 143 | 232 => 197 | 233 => 198 | n => n, fun | 17 => 2 | 18 => 7 | 19 => 8 | n => n⟩
theorem Sh.laysM171I : Go.Proofs.LaysM.n171 Tryd.prog Sh.laysM171I_ren := {
  mixed := by kernel_rfl
  f129 := Tryd.func140.trans (congrArg some (by kernel_rfl))
  f171 := Tryd.func11.trans (congrArg some (by kernel_rfl))
  f243 := Tryd.func27.trans (congrArg some (by kernel_rfl))
  f246 := Tryd.func69.trans (congrArg some (by kernel_rfl))
  f283 := Tryd.func103.trans (congrArg some (by kernel_rfl))
  f284 := Tryd.func104.trans (congrArg some (by kernel_rfl))
  f285 := Tryd.func105.trans (congrArg some (by kernel_rfl))
  f286 := Tryd.func106.trans (congrArg some (by kernel_rfl))
  f317 := Tryd.func139.trans (congrArg some (by kernel_rfl))
  f318 := Tryd.func141.trans (congrArg some (by kernel_rfl))
  f319 := Tryd.func142.trans (congrArg some (by kernel_rfl))
  f320 := Tryd.func143.trans (congrArg some (by kernel_rfl))
  f337 := Tryd.func161.trans (congrArg some (by kernel_rfl))
  f338 := Tryd.func162.trans (congrArg some (by kernel_rfl))
  t0 := Tryd.underlying0
  a0 := Tryd.isAgg0
  z0 := Tryd.sizeOf0
  v0 := Tryd.zeroValue0
  t2 := Tryd.underlying2
  a2 := Tryd.isAgg2
  z2 := Tryd.sizeOf2
  v2 := Tryd.zeroValue2
  t3 := Tryd.underlying3
  a3 := Tryd.isAgg3
  z3 := Tryd.sizeOf3
  v3 := Tryd.zeroValue3
  t4 := Tryd.underlying4
  a4 := Tryd.isAgg4
  z4 := Tryd.sizeOf4
  v4 := Tryd.zeroValue4
  t5 := Tryd.underlying5
  a5 := Tryd.isAgg5
  z5 := Tryd.sizeOf5
  v5 := Tryd.zeroValue5
  t9 := Tryd.underlying9
  a9 := Tryd.isAgg9
  z9 := Tryd.sizeOf9
  v9 := Tryd.zeroValue9
  t20 := Tryd.underlying20
  a20 := Tryd.isAgg20
  z20 := Tryd.sizeOf20
  v20 := Tryd.zeroValue20
  t37 := Tryd.underlying99
  a37 := Tryd.isAgg99
  z37 := Tryd.sizeOf99
  v37 := Tryd.zeroValue99
  t46 := Tryd.underlying143
  a46 := Tryd.isAgg143
  z46 := Tryd.sizeOf143
  v46 := Tryd.zeroValue143
  t51 := Tryd.underlying172
  a51 := Tryd.isAgg172
  z51 := Tryd.sizeOf172
  v51 := Tryd.zeroValue172
  t53 := Tryd.underlying138
  a53 := Tryd.isAgg138
  z53 := Tryd.sizeOf138
  v53 := Tryd.zeroValue138
  t171 := Tryd.underlying137
  a171 := Tryd.isAgg137
  z171 := Tryd.sizeOf137
  v171 := Tryd.zeroValue137
  t173 := Tryd.underlying141
  a173 := Tryd.isAgg141
  z173 := Tryd.sizeOf141
  v173 := Tryd.zeroValue141
  t212 := Tryd.underlying171
  a212 := Tryd.isAgg171
  z212 := Tryd.sizeOf171
  v212 := Tryd.zeroValue171
  t213 := Tryd.underlying173
  a213 := Tryd.isAgg173
  z213 := Tryd.sizeOf173
  t232 := Tryd.underlying197
  a232 := Tryd.isAgg197
  z232 := Tryd.sizeOf197
  v232 := Tryd.zeroValue197
  t233 := Tryd.underlying198
  a233 := Tryd.isAgg198
  z233 := Tryd.sizeOf198
  v233 := Tryd.zeroValue198
  g17 := by kernel_rfl
  g18 := by kernel_rfl
  g19 := by kernel_rfl
  i0 := by kernel_rfl
  i2 := by kernel_rfl
  i3 := by kernel_rfl
  i4 := by kernel_rfl
  i5 := by kernel_rfl
  i9 := by kernel_rfl
  i20 := by kernel_rfl
  i37 := by kernel_rfl
  i46 := by kernel_rfl
  i51 := by kernel_rfl
  i53 := by kernel_rfl
  i171 := by kernel_rfl
  i173 := by kernel_rfl
  i212 := by kernel_rfl
  i232 := by kernel_rfl
  i233 := by kernel_rfl
  m17 := by kernel_rfl
  m18 := by kernel_rfl
  m19 := by kernel_rfl }
open Go.RowKit Go.Sort Go.Lib in
/-- strconv.Itoa, over the library's table of powers of ten. -/
theorem itoa_any (n : Int) (h0 : -9223372036854775808 ≤ n) (h1 : n ≤ 9223372036854775807) (w : World) (htab : Lib.TabIs Tryd.prog w "internal/strconv.uint64pow10" .u64 Lib.pow10Tab) :
    Calls Tryd.prog 11 #[.int .i64 n] w fun e w' => e = .returned (.string ⟨(Lib.itoa n).toArray⟩) ∧ Below w.heap.size w w' :=
  (Any.strconv_Itoa Sh.laysM171I n h0 h1 w htab).mono fun e w' ⟨he, k, os, hw⟩ => ⟨he, by subst hw; exact Lib.below_grow _ _ (Nat.le_refl _) k os⟩
end Go.Proofs.YtdpbedkppomffaaDoor
