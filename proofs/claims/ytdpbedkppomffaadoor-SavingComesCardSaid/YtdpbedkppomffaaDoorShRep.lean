/-
  The contract of strings.Replace, laid (the shelf's tool lay-plain printed the laying; the numbers by name).
-/
import Derived.Shelf.Strings.Replace
import Derived.Shelf.Lays
import Derived.Shelf.LaysM
import Derived.Test.YtdpbedkppomffaaDoorProg
namespace Go.Proofs.YtdpbedkppomffaaDoor
open Go.Shelf
def Sh.lays154_ren : Go.Shelf.Ren := ⟨fun | 154 => 79 | 138 => 16 | 165 => 114 | 143 => 47 | 166 => 115 | 197 => 116 | 169 => 117 | 195 => 45 | 218 => 46 | 240 => 147 | 241 => 148 | 219 => 91 | 260 => 149 | 276 => 164 | 277 => 165 | 217 => 97 | 225 => 127 | 224 => 128 | 267 => 129 | 266 => 133 | 314 => 156 | n => n, fun | 9 => 9 | 3 => 3 | 4 => 4 | 72 => 150 | 0 => 0 | 76 => 154 | 105 => 156 | 21 => 21 | 5 => 5 | 70 => 148 | 20 => 20 | 37 => 99 | 75 => 153 | 127 => 177 | 164 => 189 | 46 => 143 | 119 => 192 | 139 => 195 | 138 => 194 | 146 => 185 | 51 => 172 | 80 => 158 | n => n, fun | 1 => 1 | 3 => 4 | 4 => 5 | n => n⟩
theorem Sh.lays154 : Go.Proofs.Lays.n154 Tryd.prog Sh.lays154_ren := {
  mixed := by kernel_rfl
  f138 := Tryd.func16.trans (congrArg some (by kernel_rfl))
  f143 := Tryd.func47.trans (congrArg some (by kernel_rfl))
  f154 := Tryd.func79.trans (congrArg some (by kernel_rfl))
  f165 := Tryd.func114.trans (congrArg some (by kernel_rfl))
  f166 := Tryd.func115.trans (congrArg some (by kernel_rfl))
  f169 := Tryd.func117.trans (congrArg some (by kernel_rfl))
  f195 := Tryd.func45.trans (congrArg some (by kernel_rfl))
  f197 := Tryd.func116.trans (congrArg some (by kernel_rfl))
  f217 := Tryd.func97.trans (congrArg some (by kernel_rfl))
  f218 := Tryd.func46.trans (congrArg some (by kernel_rfl))
  f219 := Tryd.func91.trans (congrArg some (by kernel_rfl))
  f224 := Tryd.func128.trans (congrArg some (by kernel_rfl))
  f225 := Tryd.func127.trans (congrArg some (by kernel_rfl))
  f240 := Tryd.func147.trans (congrArg some (by kernel_rfl))
  f241 := Tryd.func148.trans (congrArg some (by kernel_rfl))
  f260 := Tryd.func149.trans (congrArg some (by kernel_rfl))
  f266 := Tryd.func133.trans (congrArg some (by kernel_rfl))
  f267 := Tryd.func129.trans (congrArg some (by kernel_rfl))
  f276 := Tryd.func164.trans (congrArg some (by kernel_rfl))
  f277 := Tryd.func165.trans (congrArg some (by kernel_rfl))
  f314 := Tryd.func156.trans (congrArg some (by kernel_rfl))
  t0 := Tryd.underlying0
  a0 := Tryd.isAgg0
  z0 := Tryd.sizeOf0
  v0 := Tryd.zeroValue0
  t3 := Tryd.underlying3
  a3 := Tryd.isAgg3
  z3 := Tryd.sizeOf3
  v3 := Tryd.zeroValue3
  t4 := Tryd.underlying4
  a4 := Tryd.isAgg4
  z4 := Tryd.sizeOf4
  v4 := Tryd.zeroValue4
  t5 := Tryd.underlying5
  a5 := Tryd.isAgg5
  z5 := Tryd.sizeOf5
  v5 := Tryd.zeroValue5
  t9 := Tryd.underlying9
  a9 := Tryd.isAgg9
  z9 := Tryd.sizeOf9
  v9 := Tryd.zeroValue9
  t20 := Tryd.underlying20
  a20 := Tryd.isAgg20
  z20 := Tryd.sizeOf20
  v20 := Tryd.zeroValue20
  t21 := Tryd.underlying21
  a21 := Tryd.isAgg21
  z21 := Tryd.sizeOf21
  v21 := Tryd.zeroValue21
  t37 := Tryd.underlying99
  a37 := Tryd.isAgg99
  z37 := Tryd.sizeOf99
  v37 := Tryd.zeroValue99
  t46 := Tryd.underlying143
  a46 := Tryd.isAgg143
  z46 := Tryd.sizeOf143
  v46 := Tryd.zeroValue143
  t51 := Tryd.underlying172
  a51 := Tryd.isAgg172
  z51 := Tryd.sizeOf172
  v51 := Tryd.zeroValue172
  t70 := Tryd.underlying148
  a70 := Tryd.isAgg148
  z70 := Tryd.sizeOf148
  v70 := Tryd.zeroValue148
  t72 := Tryd.underlying150
  a72 := Tryd.isAgg150
  z72 := Tryd.sizeOf150
  v72 := Tryd.zeroValue150
  t75 := Tryd.underlying153
  a75 := Tryd.isAgg153
  z75 := Tryd.sizeOf153
  v75 := Tryd.zeroValue153
  t76 := Tryd.underlying154
  a76 := Tryd.isAgg154
  z76 := Tryd.sizeOf154
  v76 := Tryd.zeroValue154
  t105 := Tryd.underlying156
  a105 := Tryd.isAgg156
  z105 := Tryd.sizeOf156
  v105 := Tryd.zeroValue156
  t119 := Tryd.underlying192
  a119 := Tryd.isAgg192
  z119 := Tryd.sizeOf192
  t127 := Tryd.underlying177
  a127 := Tryd.isAgg177
  z127 := Tryd.sizeOf177
  v127 := Tryd.zeroValue177
  t138 := Tryd.underlying194
  a138 := Tryd.isAgg194
  z138 := Tryd.sizeOf194
  v138 := Tryd.zeroValue194
  t139 := Tryd.underlying195
  a139 := Tryd.isAgg195
  z139 := Tryd.sizeOf195
  v139 := Tryd.zeroValue195
  t146 := Tryd.underlying185
  a146 := Tryd.isAgg185
  z146 := Tryd.sizeOf185
  v146 := Tryd.zeroValue185
  t164 := Tryd.underlying189
  a164 := Tryd.isAgg189
  z164 := Tryd.sizeOf189
  v164 := Tryd.zeroValue189
  g1 := by kernel_rfl
  g3 := by kernel_rfl
  g4 := by kernel_rfl }
theorem Sh.Builder_Extra_154 : Builder.Extra Tryd.prog Sh.lays154_ren := {
  sizeBuilder := by kernel_rfl
  liesBuilder := by kernel_rfl
  t5 := Tryd.underlying5
  a5 := Tryd.isAgg5
  z5 := Tryd.sizeOf5
  v5 := Tryd.zeroValue5
  infoByte := by kernel_rfl
  cellsByte := by kernel_rfl
  sizeByte := by kernel_rfl
  neB5 := by decide }
open Go.RowKit Go.Lib in
theorem Sh.strings_Replace (s old new : ByteArray) (n : Int) (m : Int) (w : World) (hs : s.size < 4294967281) (hm : w.cell? ⟨1, 0, none⟩ = some (.int .i64 m)) (h1 : 1 ≤ old.size) (hlen : s.size + Lib.countB s old * new.size ≤ 140737488355328) :
    Calls Tryd.prog 79 #[.string s, .string old, .string new, .int .i64 n] w fun e w' =>
      e = .returned (.string ⟨(Lib.replace s.data.toList old.data.toList new.data.toList n).toArray⟩) ∧ Below w.heap.size w w' := Any.strings_Replace Sh.lays154 Sh.Builder_Extra_154 s old new n m w hs hm h1 hlen
end Go.Proofs.YtdpbedkppomffaaDoor
