/-
  The library's slices.Sort and slices.Compact over numbers: their contracts, laid; and on a row of the call's own.
-/
import Derived.Shelf.Small.Bits
import Derived.Shelf.Sort.Plain
import Derived.Shelf.Slices.CompactI
import Derived.Shelf.Slices.Cells
import Derived.Shelf.Slices.In.SortNone
import Derived.Laws.AppendOwnNone
import Derived.DeepKeys4
import Derived.Maps.OwnOps
import Derived.RegionTactic
import Derived.Deep.OwnRows
import Derived.Test.YtbikdlcjbigafaaGreatDoorProg
import Derived.Test.YtbikdlcjbigafaaGreatDoorJTreeT
import Derived.Test.YtbikdlcjbigafaaGreatDoorJOptP
namespace Go.Proofs.YtbikdlcjbigafaaGreatDoor
open Go.Shelf
def Sh.lays189_ren : Go.Shelf.Ren := ⟨fun | 189 => 51 | 125 => 92 | 257 => 91 | 128 => 144 | 129 => 145 | 294 => 136 | 295 => 137 | 296 => 138 | 297 => 139 | 298 => 140 | 299 => 141 | 216 => 110 | 300 => 142 | 301 => 143 | 328 => 171 | 329 => 172 | 330 => 173 | 331 => 174 | 332 => 175 | 215 => 152 | 343 => 190 | n => n, fun | 28 => 77 | 3 => 3 | 46 => 172 | 0 => 0 | 51 => 209 | 53 => 211 | 4 => 4 | 183 => 203 | 182 => 202 | 131 => 128 | 5 => 5 | 9 => 9 | 218 => 236 | 222 => 240 | 228 => 250 | 229 => 41 | n => n, fun | n => n⟩
theorem Sh.lays189 : Go.Proofs.Lays.n189 Tryz.prog Sh.lays189_ren := {
  mixed := by kernel_rfl
  f125 := Tryz.func92.trans (congrArg some (by kernel_rfl))
  f128 := Tryz.func144.trans (congrArg some (by kernel_rfl))
  f129 := Tryz.func145.trans (congrArg some (by kernel_rfl))
  f189 := Tryz.func51.trans (congrArg some (by kernel_rfl))
  f215 := Tryz.func152.trans (congrArg some (by kernel_rfl))
  f216 := Tryz.func110.trans (congrArg some (by kernel_rfl))
  f257 := Tryz.func91.trans (congrArg some (by kernel_rfl))
  f294 := Tryz.func136.trans (congrArg some (by kernel_rfl))
  f295 := Tryz.func137.trans (congrArg some (by kernel_rfl))
  f296 := Tryz.func138.trans (congrArg some (by kernel_rfl))
  f297 := Tryz.func139.trans (congrArg some (by kernel_rfl))
  f298 := Tryz.func140.trans (congrArg some (by kernel_rfl))
  f299 := Tryz.func141.trans (congrArg some (by kernel_rfl))
  f300 := Tryz.func142.trans (congrArg some (by kernel_rfl))
  f301 := Tryz.func143.trans (congrArg some (by kernel_rfl))
  f328 := Tryz.func171.trans (congrArg some (by kernel_rfl))
  f329 := Tryz.func172.trans (congrArg some (by kernel_rfl))
  f330 := Tryz.func173.trans (congrArg some (by kernel_rfl))
  f331 := Tryz.func174.trans (congrArg some (by kernel_rfl))
  f332 := Tryz.func175.trans (congrArg some (by kernel_rfl))
  f343 := Tryz.func190.trans (congrArg some (by kernel_rfl))
  t0 := Tryz.underlying0
  a0 := Tryz.isAgg0
  z0 := Tryz.sizeOf0
  v0 := Tryz.zeroValue0
  t3 := Tryz.underlying3
  a3 := Tryz.isAgg3
  z3 := Tryz.sizeOf3
  v3 := Tryz.zeroValue3
  t4 := Tryz.underlying4
  a4 := Tryz.isAgg4
  z4 := Tryz.sizeOf4
  v4 := Tryz.zeroValue4
  t5 := Tryz.underlying5
  a5 := Tryz.isAgg5
  z5 := Tryz.sizeOf5
  v5 := Tryz.zeroValue5
  t9 := Tryz.underlying9
  a9 := Tryz.isAgg9
  z9 := Tryz.sizeOf9
  v9 := Tryz.zeroValue9
  t28 := Tryz.underlying77
  a28 := Tryz.isAgg77
  z28 := Tryz.sizeOf77
  v28 := Tryz.zeroValue77
  t46 := Tryz.underlying172
  a46 := Tryz.isAgg172
  z46 := Tryz.sizeOf172
  v46 := Tryz.zeroValue172
  t51 := Tryz.underlying209
  a51 := Tryz.isAgg209
  z51 := Tryz.sizeOf209
  v51 := Tryz.zeroValue209
  t53 := Tryz.underlying211
  a53 := Tryz.isAgg211
  z53 := Tryz.sizeOf211
  v53 := Tryz.zeroValue211
  t131 := Tryz.underlying128
  a131 := Tryz.isAgg128
  z131 := Tryz.sizeOf128
  v131 := Tryz.zeroValue128
  t182 := Tryz.underlying202
  a182 := Tryz.isAgg202
  z182 := Tryz.sizeOf202
  v182 := Tryz.zeroValue202
  t183 := Tryz.underlying203
  a183 := Tryz.isAgg203
  z183 := Tryz.sizeOf203
  v183 := Tryz.zeroValue203
  t218 := Tryz.underlying236
  a218 := Tryz.isAgg236
  z218 := Tryz.sizeOf236
  v218 := Tryz.zeroValue236
  t222 := Tryz.underlying240
  a222 := Tryz.isAgg240
  z222 := Tryz.sizeOf240
  v222 := Tryz.zeroValue240
  t228 := Tryz.underlying250
  a228 := Tryz.isAgg250
  z228 := Tryz.sizeOf250
  v228 := Tryz.zeroValue250
  t229 := Tryz.underlying41
  a229 := Tryz.isAgg41
  z229 := Tryz.sizeOf41
  v229 := Tryz.zeroValue41 }
def Sh.laysNm220_ren : Go.Shelf.Ren := ⟨fun | 20 => 52 | n => n, fun | 22 => 77 | 3 => 3 | 4 => 4 | 0 => 0 | n => n, fun | n => n⟩
theorem Sh.laysNm220 : Go.Proofs.Lays2.n20 Tryz.prog Sh.laysNm220_ren := {
  mixed := by kernel_rfl
  f20 := Tryz.func52.trans (congrArg some (by kernel_rfl))
  t0 := Tryz.underlying0
  a0 := Tryz.isAgg0
  z0 := Tryz.sizeOf0
  v0 := Tryz.zeroValue0
  t3 := Tryz.underlying3
  a3 := Tryz.isAgg3
  z3 := Tryz.sizeOf3
  v3 := Tryz.zeroValue3
  t4 := Tryz.underlying4
  a4 := Tryz.isAgg4
  z4 := Tryz.sizeOf4
  v4 := Tryz.zeroValue4
  t22 := Tryz.underlying77
  a22 := Tryz.isAgg77
  z22 := Tryz.sizeOf77
  v22 := Tryz.zeroValue77
  i3 := by kernel_rfl }
open Go.Sort Go.RowKit in
theorem Sh.slices_Sort_int (blk off cap : Nat) (zs : List Int) (w : World) (hH : Holds (Value.int .i64) w blk off zs.toArray) (hblk : blk < w.heap.size) (hsz : zs.length < 4611686018427387904) :
    Calls Tryz.prog 51 #[.slice (some ⟨blk, off, none⟩) zs.length cap] w fun e w' =>
      e = .returned (.tuple #[]) ∧ ∃ n os, w' = grow (putRow (Value.int .i64) (Sort.ahead w n) blk off (zs.mergeSort fun x y => decide (x ≤ y)).toArray) os := Any.slices_Sort_int Sh.lays189 blk off cap zs w hH hblk hsz
open Go.RowKit Go.Lib Go.Sort in
theorem Sh.slices_Compact_int (blk off cap : Nat) (zs : List Int) (w : World) (hH : Holds (Value.int .i64) w blk off zs.toArray) (hsz : zs.length ≤ 9223372036854775807) (hcap : zs.length ≤ cap) :
    Calls Tryz.prog 52 #[.slice (some ⟨blk, off, none⟩) zs.length cap] w fun e w' => e = .returned (.slice (some ⟨blk, off, none⟩) (Lib.compact zs).length cap) ∧ ∃ q, w' = putRow (Value.int .i64) (Sort.ahead w q) blk off (Lib.compact zs ++ List.replicate (zs.length - (Lib.compact zs).length) 0).toArray := Any.slices_Compact_int Sh.laysNm220 blk off cap zs w hH hsz hcap
open Go.RowKit Go.Lib Go.Sort in
theorem Sh.slices_Compact_int_empty (a : Option Addr) (cap : Nat) (w : World) :
    Calls Tryz.prog 52 #[.slice a 0 cap] w fun e w' => e = .returned (.slice a 0 cap) ∧ w' = w := Any.slices_Compact_int_empty Sh.laysNm220 a cap w
open Go.RowKit Go.Sort in
theorem Sh.slices_Sort_int_none (p : Option Addr) (cap : Nat) (w : World) :
    Calls Tryz.prog 51 #[.slice p 0 cap] w fun e w' => e = .returned (.tuple #[]) ∧ w' = w := Any.slices_Sort_int_none Sh.lays189 p cap w
end Go.Proofs.YtbikdlcjbigafaaGreatDoor
namespace Go.Proofs.YtbikdlcjbigafaaGreatDoor
set_option linter.unusedVariables false
set_option linter.unusedSimpArgs false
open Go.ChangeShapes Go.WideShapes Go.ChangeAt Go.RowKit

theorem flatI (xs : List Int) : xs.flatMap encI = xs.map (Value.int .i64) := by
  induction xs with
  | nil => rfl
  | cons x xs ih => rw [List.flatMap_cons, ih]; rfl
theorem holds_own {w : World} {B n : Nat} {e : TypeId} {g cap : Nat} {xs : List Int} (h : w.ownsRow B e 1 (.slice (some ⟨g, 0, none⟩) n cap) xs.length (xs.flatMap encI)) : Go.Sort.Holds (Value.int .i64) w g 0 xs.toArray := by
  intro j hj
  have hj' : j < xs.length := by simpa using hj
  obtain ⟨hl, h2⟩ := h
  rcases h2 with ⟨h2, _⟩ | ⟨g', cap', cur, hv, hb, hh, hc, hm, hs, ht⟩
  · cases h2
  · injection hv with e1 e2 e3
    injection e1 with e1
    injection e1 with e1
    subst e1
    have hcur : cur[0 + j]? = some (.int .i64 xs[j]) := by
      have e4 : (cur.toList.take (xs.length * 1))[j]? = cur.toList[j]? := by
        rw [List.getElem?_take, if_pos (by omega)]
      rw [ht, flatI, List.getElem?_map, List.getElem?_eq_getElem hj'] at e4
      rw [Nat.zero_add, ← Array.getElem?_toList, ← e4]; rfl
    constructor
    · unfold World.cell?
      rw [show (⟨g, 0 + j, none⟩ : Addr).block = g from rfl, hh]
      rw [getElem!_pos xs.toArray j hj, List.getElem_toArray]
      simpa [World.cell?] using hcur
    · simp [World.frozen?, hh]
theorem put_own {w : World} {B n m : Nat} {e : TypeId} {g cap : Nat} {xs ys : List Int} (os : Array Obj) (k : Nat) (h : w.ownsRow B e 1 (.slice (some ⟨g, 0, none⟩) n cap) xs.length (xs.flatMap encI)) (hm : m ≤ ys.length) (hy : ys.length = xs.length) :
    (Go.Sort.grow (Go.Sort.putRow (Value.int .i64) (Go.Sort.ahead w k) g 0 ys.toArray) os).ownsRow B e 1 (.slice (some ⟨g, 0, none⟩) m cap) m ((ys.take m).flatMap encI) ∧
    w.grownBy (Go.Sort.grow (Go.Sort.putRow (Value.int .i64) (Go.Sort.ahead w k) g 0 ys.toArray) os) (some g) := by
  obtain ⟨hl, h2⟩ := h
  rcases h2 with ⟨h2, _⟩ | ⟨g', cap', cur, hv, hb, hh, hc, hmx, hs, ht⟩
  · cases h2
  · injection hv with e1 e2 e3
    injection e1 with e1
    injection e1 with e1
    subst e1 e3
    have hg : g < w.heap.size := by
      rcases Nat.lt_or_ge g w.heap.size with q | q
      · exact q
      · rw [Array.getElem?_eq_none q] at hh; cases hh
    have hsz : (Go.Sort.putRow (Value.int .i64) (Go.Sort.ahead w k) g 0 ys.toArray).heap.size = w.heap.size := by
      unfold Go.Sort.putRow Go.Sort.mapBlock Go.Sort.ahead
      simp
    have hblk : (Go.Sort.grow (Go.Sort.putRow (Value.int .i64) (Go.Sort.ahead w k) g 0 ys.toArray) os).heap[g]? = some (.cells (Go.Sort.putCells (Value.int .i64) 0 ys.toArray cur) e (0, 0)) := by
      unfold Go.Sort.grow
      dsimp only
      rw [Array.getElem?_append_left (by rw [hsz]; exact hg)]
      unfold Go.Sort.putRow Go.Sort.mapBlock Go.Sort.ahead
      dsimp only
      rw [Array.getElem?_modify, if_pos rfl, hh]
      rfl
    refine ⟨⟨by rw [flatI]; simp; omega, .inr ⟨g, cap, _, rfl, hb, hblk, by omega, hmx, ?_, ?_⟩⟩, rfl, rfl, rfl, ?_, fun b hb' hne => ?_⟩
    · unfold Go.Sort.putCells; rw [Array.size_mapIdx]; exact hs
    · apply List.ext_getElem?
      intro j
      rw [flatI, Nat.mul_one]
      by_cases hj : j < m
      · rw [List.getElem?_take, if_pos hj, Array.getElem?_toList]
        unfold Go.Sort.putCells
        rw [Array.getElem?_mapIdx]
        have hjc : j < cur.size := by omega
        rw [Array.getElem?_eq_getElem hjc]
        simp only [Option.map_some, Nat.zero_le, true_and, Nat.zero_add, Nat.sub_zero]
        rw [if_pos (by simp; omega), getElem!_pos ys.toArray j (by simp; omega), List.getElem_toArray, List.getElem?_map, List.getElem?_take, if_pos hj, List.getElem?_eq_getElem (by omega)]
        rfl
      · rw [List.getElem?_eq_none (by rw [List.length_take]; omega), List.getElem?_eq_none (by rw [List.length_map, List.length_take]; omega)]
    · unfold Go.Sort.grow
      dsimp only
      rw [Array.size_append, hsz]
      omega
    · unfold Go.Sort.grow
      dsimp only
      rw [Array.getElem?_append_left (by rw [hsz]; exact hb')]
      unfold Go.Sort.putRow Go.Sort.mapBlock Go.Sort.ahead
      dsimp only
      rw [Array.getElem?_modify, if_neg (fun e => hne (by rw [e]))]
/-- slices.Sort of a row of the call's own. -/
theorem sort_own (v : Value) (xs : List Int) (B : Nat) (w : World) (h : w.ownsRow B 3 1 v xs.length (xs.flatMap encI)) (hl : xs.length < 4611686018427387904) :
    Calls Tryz.prog 51 #[v] w fun e w' => e = .returned (.tuple #[]) ∧ w'.ownsRow B 3 1 v (srt xs).length ((srt xs).flatMap encI) ∧ w.grownBy w' v.ownBlock := by
  have h0 := h
  rcases h0.2 with ⟨rfl, hz⟩ | ⟨g, cap, cur, rfl, hb, hh, hc, hmx, hs, ht⟩
  · obtain rfl : xs = [] := List.length_eq_zero_iff.1 hz
    refine (Sh.slices_Sort_int_none none 0 w).mono ?_
    rintro e w' ⟨rfl, rfl⟩
    rw [show srt [] = [] from List.length_eq_zero_iff.1 (srt_len [])]
    exact ⟨rfl, World.ownsRow_nil _ _ _ _, rfl, rfl, rfl, Nat.le_refl _, fun _ _ _ => rfl⟩
  · have hg : g < w.heap.size := by
      rcases Nat.lt_or_ge g w.heap.size with q | q
      · exact q
      · rw [Array.getElem?_eq_none q] at hh; cases hh
    refine (Sh.slices_Sort_int g 0 cap xs w (holds_own h) hg hl).mono ?_
    rintro e w' ⟨rfl, n, os, rfl⟩
    have hp := put_own (m := xs.length) (ys := srt xs) os n h (by rw [srt_len]; exact Nat.le_refl _) (srt_len xs)
    rw [show (srt xs).take xs.length = srt xs from List.take_of_length_le (by rw [srt_len]; exact Nat.le_refl _)] at hp
    rw [srt_len]
    exact ⟨rfl, hp.1, hp.2⟩
/-- slices.Compact of a row of the call's own. -/
theorem compact_own (v : Value) (xs : List Int) (B : Nat) (w : World) (h : w.ownsRow B 3 1 v xs.length (xs.flatMap encI)) :
    Calls Tryz.prog 52 #[v] w fun e w' => ∃ v', e = .returned v' ∧ w'.ownsRow B 3 1 v' (Lib.compact xs).length ((Lib.compact xs).flatMap encI) ∧ w.grownBy w' v.ownBlock ∧ v'.ownBlock = v.ownBlock := by
  have h0 := h
  rcases h0.2 with ⟨rfl, hz⟩ | ⟨g, cap, cur, rfl, hb, hh, hc, hmx, hs, ht⟩
  · obtain rfl : xs = [] := List.length_eq_zero_iff.1 hz
    refine (Sh.slices_Compact_int_empty none 0 w).mono ?_
    rintro e w' ⟨rfl, rfl⟩
    exact ⟨_, rfl, World.ownsRow_nil _ _ _ _, ⟨rfl, rfl, rfl, Nat.le_refl _, fun _ _ _ => rfl⟩, rfl⟩
  · refine (Sh.slices_Compact_int g 0 cap xs w (holds_own h) (by unfold maxLen at hmx; omega) hc).mono ?_
    rintro e w' ⟨rfl, q, rfl⟩
    have hcl := compact_le xs
    have hp := put_own (m := (Lib.compact xs).length) (ys := Lib.compact xs ++ List.replicate (xs.length - (Lib.compact xs).length) 0) #[] q h (by simp) (by simp; omega)
    rw [Go.Sort.grow_empty, List.take_left'] at hp
    · exact ⟨_, rfl, hp.1, hp.2, rfl⟩
    · rfl
end Go.Proofs.YtbikdlcjbigafaaGreatDoor
