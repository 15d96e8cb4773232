/-
  What a clock is called, plain: formats that may be. · The contract of strings.Replace, laid (the shelf's tool lay-plain printed the laying; the numbers by name).
-/
import Derived.Lib.Replace
import Derived.Lib.CountLaws
import Derived.Lib.IndexMore
import Derived.Lib.IndexLaws
import Derived.Shelf.Strings.Replace
import Derived.Shelf.Lays
import Derived.Shelf.LaysM
import Derived.Test.YtcmlcmokjgkciaaGreatDoorJZonW0
import Derived.Test.YtcmlcmokjgkciaaGreatDoorProg
namespace Go.Proofs.YtcmlcmokjgkciaaGreatDoor
set_option linter.unusedVariables false
set_option linter.unusedSimpArgs false
open Go.ChangeShapes Go.WideShapes Go.ChangeAt Go.RowKit Civ

/-- what a clock asks of an era, of what is saved, of letters. -/
structure COk (x : Ero) (sv : Int) (lt : ByteArray) : Prop where
  f : fmtL x.fm.data.toList = true
  o : -86400 ≤ x.off ∧ x.off ≤ 86400
  s : -86400 ≤ sv ∧ sv ≤ 86400
  l : lt.size ≤ 6
theorem fmt_len {l : List UInt8} (h : fmtL l = true) : 1 ≤ (l.length : Int) ∧ (l.length : Int) ≤ 12 := by
  by_cases e : 1 ≤ (l.length : Int) ∧ (l.length : Int) ≤ 12
  · exact e
  · rw [fmt_size e] at h; cases h
/-- the first mark, replaced. -/
theorem replace_one (fm lt : List UInt8) : Lib.replace fm [37, 115] lt 1 = if 0 ≤ Lib.index fm [37, 115] then fm.take (Lib.index fm [37, 115]).toNat ++ (lt ++ fm.drop ((Lib.index fm [37, 115]).toNat + 2)) else fm := by
  unfold Lib.replace
  have hge := Lib.index_ge fm [37, 115]
  by_cases hm : Lib.index fm [37, 115] = -1
  · have e1 : (if 0 ≤ Lib.index fm [37, 115] then fm.take (Lib.index fm [37, 115]).toNat ++ (lt ++ fm.drop ((Lib.index fm [37, 115]).toNat + 2)) else fm) = fm := if_neg (by omega)
    rw [e1]
    split
    · rfl
    · cases Lib.replaceNum fm [37, 115] 1 with
      | zero => rfl
      | succ k => unfold Lib.replaceK; rw [hm]; rfl
  · have e1 : (if 0 ≤ Lib.index fm [37, 115] then fm.take (Lib.index fm [37, 115]).toNat ++ (lt ++ fm.drop ((Lib.index fm [37, 115]).toNat + 2)) else fm) = fm.take (Lib.index fm [37, 115]).toNat ++ (lt ++ fm.drop ((Lib.index fm [37, 115]).toNat + 2)) := if_pos (by omega)
    rw [e1]
    have hc : Lib.replaceNum fm [37, 115] 1 = 1 := by
      unfold Lib.replaceNum
      rw [if_neg]
      · rfl
      · intro h
        rcases h with h | h
        · omega
        · have h0 : Lib.count fm [37, 115] = 0 := by omega
          rcases ix_cases fm [37, 115] with e | ⟨k, e, -⟩
          · exact hm e
          · have := Lib.count_hit (by simp) e
            omega
    have hf : fm = fm.take (Lib.index fm [37, 115]).toNat ++ ([37, 115] ++ fm.drop ((Lib.index fm [37, 115]).toNat + 2)) := by
      rcases Lib.index_spec fm [37, 115] with ⟨m, -⟩ | ⟨k, hk, hkl, ho, -⟩
      · exact absurd m hm
      · rw [hk, Int.toNat_natCast]
        rw [occ2] at ho
        obtain ⟨h1, h2⟩ := Bool.and_eq_true_iff.1 ho
        have h1 : fm[k]? = some 37 := by simpa using h1
        have h2 : fm[k + 1]? = some 115 := by simpa using h2
        obtain ⟨l1, e1⟩ := List.getElem?_eq_some_iff.1 h1
        obtain ⟨l2, e2⟩ := List.getElem?_eq_some_iff.1 h2
        have e3 : fm.drop k = 37 :: 115 :: fm.drop (k + 2) := by
          rw [List.drop_eq_getElem_cons l1, e1, List.drop_eq_getElem_cons l2, e2]
        calc fm = fm.take k ++ fm.drop k := (List.take_append_drop _ _).symm
          _ = _ := by rw [e3]; rfl
    split
    · rename_i hb
      have hb : [37, 115] = lt := by simpa using hb
      rw [← hb]
      exact hf
    · rw [hc]
      unfold Lib.replaceK
      rw [if_neg (by simpa using hm)]
      unfold Lib.replaceK
      rw [List.append_assoc]
      rfl
/-- what a clock is called, by cases. -/
theorem fmtN_slash {fm lt : List UInt8} {k : Nat} (h : Lib.index fm [47] = k) (sv : Bool) : fmtN fm lt sv = if sv then fm.drop (k + 1) else fm.take k := by
  unfold fmtN
  rw [h, if_pos (by omega), Int.toNat_natCast]
theorem fmtN_no {fm lt : List UInt8} (h : Lib.index fm [47] = -1) (sv : Bool) : fmtN fm lt sv = Lib.replace fm [37, 115] lt 1 := by
  unfold fmtN
  rw [h, if_neg (by omega), replace_one]
end Go.Proofs.YtcmlcmokjgkciaaGreatDoor

namespace Go.Proofs.YtcmlcmokjgkciaaGreatDoor
open Go.Shelf
def Sh.lays154_ren : Go.Shelf.Ren := ⟨fun | 154 => 85 | 138 => 57 | 165 => 116 | 143 => 58 | 166 => 117 | 197 => 94 | 169 => 118 | 195 => 93 | 218 => 95 | 240 => 144 | 241 => 145 | 219 => 96 | 260 => 131 | 276 => 157 | 277 => 158 | 217 => 109 | 225 => 132 | 224 => 133 | 267 => 134 | 266 => 141 | 314 => 152 | n => n, fun | 9 => 9 | 3 => 3 | 4 => 4 | 72 => 170 | 0 => 0 | 76 => 173 | 105 => 151 | 21 => 21 | 5 => 5 | 70 => 168 | 20 => 20 | 37 => 114 | 75 => 172 | 127 => 189 | 164 => 206 | 46 => 146 | 119 => 198 | 139 => 201 | 138 => 200 | 146 => 202 | 51 => 149 | 80 => 175 | n => n, fun | 1 => 3 | 3 => 7 | 4 => 8 | n => n⟩
theorem Sh.lays154 : Go.Proofs.Lays.n154 Tryz.prog Sh.lays154_ren := {
  mixed := by kernel_rfl
  f138 := Tryz.func57.trans (congrArg some (by kernel_rfl))
  f143 := Tryz.func58.trans (congrArg some (by kernel_rfl))
  f154 := Tryz.func85.trans (congrArg some (by kernel_rfl))
  f165 := Tryz.func116.trans (congrArg some (by kernel_rfl))
  f166 := Tryz.func117.trans (congrArg some (by kernel_rfl))
  f169 := Tryz.func118.trans (congrArg some (by kernel_rfl))
  f195 := Tryz.func93.trans (congrArg some (by kernel_rfl))
  f197 := Tryz.func94.trans (congrArg some (by kernel_rfl))
  f217 := Tryz.func109.trans (congrArg some (by kernel_rfl))
  f218 := Tryz.func95.trans (congrArg some (by kernel_rfl))
  f219 := Tryz.func96.trans (congrArg some (by kernel_rfl))
  f224 := Tryz.func133.trans (congrArg some (by kernel_rfl))
  f225 := Tryz.func132.trans (congrArg some (by kernel_rfl))
  f240 := Tryz.func144.trans (congrArg some (by kernel_rfl))
  f241 := Tryz.func145.trans (congrArg some (by kernel_rfl))
  f260 := Tryz.func131.trans (congrArg some (by kernel_rfl))
  f266 := Tryz.func141.trans (congrArg some (by kernel_rfl))
  f267 := Tryz.func134.trans (congrArg some (by kernel_rfl))
  f276 := Tryz.func157.trans (congrArg some (by kernel_rfl))
  f277 := Tryz.func158.trans (congrArg some (by kernel_rfl))
  f314 := Tryz.func152.trans (congrArg some (by kernel_rfl))
  t0 := Tryz.underlying0
  a0 := Tryz.isAgg0
  z0 := Tryz.sizeOf0
  v0 := Tryz.zeroValue0
  t3 := Tryz.underlying3
  a3 := Tryz.isAgg3
  z3 := Tryz.sizeOf3
  v3 := Tryz.zeroValue3
  t4 := Tryz.underlying4
  a4 := Tryz.isAgg4
  z4 := Tryz.sizeOf4
  v4 := Tryz.zeroValue4
  t5 := Tryz.underlying5
  a5 := Tryz.isAgg5
  z5 := Tryz.sizeOf5
  v5 := Tryz.zeroValue5
  t9 := Tryz.underlying9
  a9 := Tryz.isAgg9
  z9 := Tryz.sizeOf9
  v9 := Tryz.zeroValue9
  t20 := Tryz.underlying20
  a20 := Tryz.isAgg20
  z20 := Tryz.sizeOf20
  v20 := Tryz.zeroValue20
  t21 := Tryz.underlying21
  a21 := Tryz.isAgg21
  z21 := Tryz.sizeOf21
  v21 := Tryz.zeroValue21
  t37 := Tryz.underlying114
  a37 := Tryz.isAgg114
  z37 := Tryz.sizeOf114
  v37 := Tryz.zeroValue114
  t46 := Tryz.underlying146
  a46 := Tryz.isAgg146
  z46 := Tryz.sizeOf146
  v46 := Tryz.zeroValue146
  t51 := Tryz.underlying149
  a51 := Tryz.isAgg149
  z51 := Tryz.sizeOf149
  v51 := Tryz.zeroValue149
  t70 := Tryz.underlying168
  a70 := Tryz.isAgg168
  z70 := Tryz.sizeOf168
  v70 := Tryz.zeroValue168
  t72 := Tryz.underlying170
  a72 := Tryz.isAgg170
  z72 := Tryz.sizeOf170
  v72 := Tryz.zeroValue170
  t75 := Tryz.underlying172
  a75 := Tryz.isAgg172
  z75 := Tryz.sizeOf172
  v75 := Tryz.zeroValue172
  t76 := Tryz.underlying173
  a76 := Tryz.isAgg173
  z76 := Tryz.sizeOf173
  v76 := Tryz.zeroValue173
  t105 := Tryz.underlying151
  a105 := Tryz.isAgg151
  z105 := Tryz.sizeOf151
  v105 := Tryz.zeroValue151
  t119 := Tryz.underlying198
  a119 := Tryz.isAgg198
  z119 := Tryz.sizeOf198
  t127 := Tryz.underlying189
  a127 := Tryz.isAgg189
  z127 := Tryz.sizeOf189
  v127 := Tryz.zeroValue189
  t138 := Tryz.underlying200
  a138 := Tryz.isAgg200
  z138 := Tryz.sizeOf200
  v138 := Tryz.zeroValue200
  t139 := Tryz.underlying201
  a139 := Tryz.isAgg201
  z139 := Tryz.sizeOf201
  v139 := Tryz.zeroValue201
  t146 := Tryz.underlying202
  a146 := Tryz.isAgg202
  z146 := Tryz.sizeOf202
  v146 := Tryz.zeroValue202
  t164 := Tryz.underlying206
  a164 := Tryz.isAgg206
  z164 := Tryz.sizeOf206
  v164 := Tryz.zeroValue206
  g1 := by kernel_rfl
  g3 := by kernel_rfl
  g4 := by kernel_rfl }
theorem Sh.Builder_Extra_154 : Builder.Extra Tryz.prog Sh.lays154_ren := {
  sizeBuilder := by kernel_rfl
  liesBuilder := by kernel_rfl
  t5 := Tryz.underlying5
  a5 := Tryz.isAgg5
  z5 := Tryz.sizeOf5
  v5 := Tryz.zeroValue5
  infoByte := by kernel_rfl
  cellsByte := by kernel_rfl
  sizeByte := by kernel_rfl
  neB5 := by decide }
open Go.RowKit Go.Lib in
theorem Sh.strings_Replace (s old new : ByteArray) (n : Int) (m : Int) (w : World) (hs : s.size < 4294967281) (hm : w.cell? ⟨3, 0, none⟩ = some (.int .i64 m)) (h1 : 1 ≤ old.size) (hlen : s.size + Lib.countB s old * new.size ≤ 140737488355328) :
    Calls Tryz.prog 85 #[.string s, .string old, .string new, .int .i64 n] w fun e w' =>
      e = .returned (.string ⟨(Lib.replace s.data.toList old.data.toList new.data.toList n).toArray⟩) ∧ Below w.heap.size w w' := Any.strings_Replace Sh.lays154 Sh.Builder_Extra_154 s old new n m w hs hm h1 hlen
end Go.Proofs.YtcmlcmokjgkciaaGreatDoor
