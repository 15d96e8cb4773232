/-
  SpansRise: spans, the walk (texts put together).
-/
import Derived.Shelf.Small.Bits
import Derived.Shelf.Sort.Plain
import Derived.Shelf.Slices.CompactI
import Derived.Shelf.Slices.Cells
import Derived.Shelf.Slices.In.SortNone
import Derived.Laws.AppendOwnNone
import Derived.DeepKeys4
import Derived.Maps.OwnOps
import Derived.RegionTactic
import Derived.Deep.OwnRows
import Derived.Test.YtcmlcmokjgkciaaGreatDoorProg
import Derived.Test.YtcmlcmokjgkciaaGreatDoorJTreeT
import Derived.Test.YtcmlcmokjgkciaaGreatDoorJAtB
import Derived.Maps.AppendAt
import Derived.BigQuiet
import Derived.Test.YtcmlcmokjgkciaaGreatDoorJAtD
import Derived.Test.YtcmlcmokjgkciaaGreatDoorJRdF
import Derived.Test.YtcmlcmokjgkciaaGreatDoorJRdU
import Derived.LaidLaws
import Derived.LaidMore
import Derived.Stop.Joined
import Derived.Stop.LaidErr
import Derived.HandedShaped
import Derived.Lib.LaidTab
import Derived.Lib.ItoaNum
import Derived.Test.YtcmlcmokjgkciaaGreatDoorJPrsB
import Derived.Test.YtcmlcmokjgkciaaGreatDoorJMxl
import Derived.Test.YtcmlcmokjgkciaaGreatDoorJRdC
import Derived.Test.YtcmlcmokjgkciaaGreatDoorJCivT
import Derived.Lib.SlicesCompact
import Derived.Test.YtcmlcmokjgkciaaGreatDoorJBase
import Derived.Test.YtcmlcmokjgkciaaGreatDoorSBase
import Derived.Test.YtcmlcmokjgkciaaGreatDoorSTreeT
import Derived.Test.YtcmlcmokjgkciaaGreatDoorJSpnA
import Derived.Test.YtcmlcmokjgkciaaGreatDoorJZonW0
import Derived.Test.YtcmlcmokjgkciaaGreatDoorSZonB0
import Derived.Test.YtcmlcmokjgkciaaGreatDoorSSoC
import Derived.Deep.RegionHeld3
import Derived.Test.YtcmlcmokjgkciaaGreatDoorJLnT
import Derived.Test.YtcmlcmokjgkciaaGreatDoorSKsB
import Derived.Test.YtcmlcmokjgkciaaGreatDoorJZonY0
namespace Go.Proofs.YtcmlcmokjgkciaaGreatDoor
open Go.Shelf
def Sh.lays189_ren : Go.Shelf.Ren := ⟨fun | 189 => 48 | 125 => 87 | 257 => 86 | 128 => 128 | 129 => 89 | 294 => 119 | 295 => 120 | 296 => 121 | 297 => 122 | 298 => 123 | 299 => 124 | 216 => 125 | 300 => 126 | 301 => 127 | 328 => 146 | 329 => 147 | 330 => 148 | 331 => 149 | 332 => 150 | 215 => 151 | 343 => 159 | n => n, fun | 28 => 66 | 3 => 3 | 46 => 146 | 0 => 0 | 51 => 149 | 53 => 111 | 4 => 4 | 183 => 178 | 182 => 177 | 131 => 95 | 5 => 5 | 9 => 9 | 218 => 190 | 222 => 194 | 228 => 209 | 229 => 49 | n => n, fun | n => n⟩
theorem Sh.lays189 : Go.Proofs.Lays.n189 Tryz.prog Sh.lays189_ren := {
  mixed := by kernel_rfl
  f125 := Tryz.func87.trans (congrArg some (by kernel_rfl))
  f128 := Tryz.func128.trans (congrArg some (by kernel_rfl))
  f129 := Tryz.func89.trans (congrArg some (by kernel_rfl))
  f189 := Tryz.func48.trans (congrArg some (by kernel_rfl))
  f215 := Tryz.func151.trans (congrArg some (by kernel_rfl))
  f216 := Tryz.func125.trans (congrArg some (by kernel_rfl))
  f257 := Tryz.func86.trans (congrArg some (by kernel_rfl))
  f294 := Tryz.func119.trans (congrArg some (by kernel_rfl))
  f295 := Tryz.func120.trans (congrArg some (by kernel_rfl))
  f296 := Tryz.func121.trans (congrArg some (by kernel_rfl))
  f297 := Tryz.func122.trans (congrArg some (by kernel_rfl))
  f298 := Tryz.func123.trans (congrArg some (by kernel_rfl))
  f299 := Tryz.func124.trans (congrArg some (by kernel_rfl))
  f300 := Tryz.func126.trans (congrArg some (by kernel_rfl))
  f301 := Tryz.func127.trans (congrArg some (by kernel_rfl))
  f328 := Tryz.func146.trans (congrArg some (by kernel_rfl))
  f329 := Tryz.func147.trans (congrArg some (by kernel_rfl))
  f330 := Tryz.func148.trans (congrArg some (by kernel_rfl))
  f331 := Tryz.func149.trans (congrArg some (by kernel_rfl))
  f332 := Tryz.func150.trans (congrArg some (by kernel_rfl))
  f343 := Tryz.func159.trans (congrArg some (by kernel_rfl))
  t0 := Tryz.underlying0
  a0 := Tryz.isAgg0
  z0 := Tryz.sizeOf0
  v0 := Tryz.zeroValue0
  t3 := Tryz.underlying3
  a3 := Tryz.isAgg3
  z3 := Tryz.sizeOf3
  v3 := Tryz.zeroValue3
  t4 := Tryz.underlying4
  a4 := Tryz.isAgg4
  z4 := Tryz.sizeOf4
  v4 := Tryz.zeroValue4
  t5 := Tryz.underlying5
  a5 := Tryz.isAgg5
  z5 := Tryz.sizeOf5
  v5 := Tryz.zeroValue5
  t9 := Tryz.underlying9
  a9 := Tryz.isAgg9
  z9 := Tryz.sizeOf9
  v9 := Tryz.zeroValue9
  t28 := Tryz.underlying66
  a28 := Tryz.isAgg66
  z28 := Tryz.sizeOf66
  v28 := Tryz.zeroValue66
  t46 := Tryz.underlying146
  a46 := Tryz.isAgg146
  z46 := Tryz.sizeOf146
  v46 := Tryz.zeroValue146
  t51 := Tryz.underlying149
  a51 := Tryz.isAgg149
  z51 := Tryz.sizeOf149
  v51 := Tryz.zeroValue149
  t53 := Tryz.underlying111
  a53 := Tryz.isAgg111
  z53 := Tryz.sizeOf111
  v53 := Tryz.zeroValue111
  t131 := Tryz.underlying95
  a131 := Tryz.isAgg95
  z131 := Tryz.sizeOf95
  v131 := Tryz.zeroValue95
  t182 := Tryz.underlying177
  a182 := Tryz.isAgg177
  z182 := Tryz.sizeOf177
  v182 := Tryz.zeroValue177
  t183 := Tryz.underlying178
  a183 := Tryz.isAgg178
  z183 := Tryz.sizeOf178
  v183 := Tryz.zeroValue178
  t218 := Tryz.underlying190
  a218 := Tryz.isAgg190
  z218 := Tryz.sizeOf190
  v218 := Tryz.zeroValue190
  t222 := Tryz.underlying194
  a222 := Tryz.isAgg194
  z222 := Tryz.sizeOf194
  v222 := Tryz.zeroValue194
  t228 := Tryz.underlying209
  a228 := Tryz.isAgg209
  z228 := Tryz.sizeOf209
  v228 := Tryz.zeroValue209
  t229 := Tryz.underlying49
  a229 := Tryz.isAgg49
  z229 := Tryz.sizeOf49
  v229 := Tryz.zeroValue49 }
def Sh.laysNm220_ren : Go.Shelf.Ren := ⟨fun | 20 => 49 | n => n, fun | 22 => 66 | 3 => 3 | 4 => 4 | 0 => 0 | n => n, fun | n => n⟩
theorem Sh.laysNm220 : Go.Proofs.Lays2.n20 Tryz.prog Sh.laysNm220_ren := {
  mixed := by kernel_rfl
  f20 := Tryz.func49.trans (congrArg some (by kernel_rfl))
  t0 := Tryz.underlying0
  a0 := Tryz.isAgg0
  z0 := Tryz.sizeOf0
  v0 := Tryz.zeroValue0
  t3 := Tryz.underlying3
  a3 := Tryz.isAgg3
  z3 := Tryz.sizeOf3
  v3 := Tryz.zeroValue3
  t4 := Tryz.underlying4
  a4 := Tryz.isAgg4
  z4 := Tryz.sizeOf4
  v4 := Tryz.zeroValue4
  t22 := Tryz.underlying66
  a22 := Tryz.isAgg66
  z22 := Tryz.sizeOf66
  v22 := Tryz.zeroValue66
  i3 := by kernel_rfl }
open Go.Sort Go.RowKit in
theorem Sh.slices_Sort_int (blk off cap : Nat) (zs : List Int) (w : World) (hH : Holds (Value.int .i64) w blk off zs.toArray) (hblk : blk < w.heap.size) (hsz : zs.length < 4611686018427387904) :
    Calls Tryz.prog 48 #[.slice (some ⟨blk, off, none⟩) zs.length cap] w fun e w' =>
      e = .returned (.tuple #[]) ∧ ∃ n os, w' = grow (putRow (Value.int .i64) (Sort.ahead w n) blk off (zs.mergeSort fun x y => decide (x ≤ y)).toArray) os := Any.slices_Sort_int Sh.lays189 blk off cap zs w hH hblk hsz
open Go.RowKit Go.Lib Go.Sort in
theorem Sh.slices_Compact_int (blk off cap : Nat) (zs : List Int) (w : World) (hH : Holds (Value.int .i64) w blk off zs.toArray) (hsz : zs.length ≤ 9223372036854775807) (hcap : zs.length ≤ cap) :
    Calls Tryz.prog 49 #[.slice (some ⟨blk, off, none⟩) zs.length cap] w fun e w' => e = .returned (.slice (some ⟨blk, off, none⟩) (Lib.compact zs).length cap) ∧ ∃ q, w' = putRow (Value.int .i64) (Sort.ahead w q) blk off (Lib.compact zs ++ List.replicate (zs.length - (Lib.compact zs).length) 0).toArray := Any.slices_Compact_int Sh.laysNm220 blk off cap zs w hH hsz hcap
open Go.RowKit Go.Lib Go.Sort in
theorem Sh.slices_Compact_int_empty (a : Option Addr) (cap : Nat) (w : World) :
    Calls Tryz.prog 49 #[.slice a 0 cap] w fun e w' => e = .returned (.slice a 0 cap) ∧ w' = w := Any.slices_Compact_int_empty Sh.laysNm220 a cap w
open Go.RowKit Go.Sort in
theorem Sh.slices_Sort_int_none (p : Option Addr) (cap : Nat) (w : World) :
    Calls Tryz.prog 48 #[.slice p 0 cap] w fun e w' => e = .returned (.tuple #[]) ∧ w' = w := Any.slices_Sort_int_none Sh.lays189 p cap w
end Go.Proofs.YtcmlcmokjgkciaaGreatDoor
namespace Go.Proofs.YtcmlcmokjgkciaaGreatDoor
set_option linter.unusedVariables false
set_option linter.unusedSimpArgs false
open Go.ChangeShapes Go.WideShapes Go.ChangeAt Go.RowKit

theorem flatI (xs : List Int) : xs.flatMap encI = xs.map (Value.int .i64) := by
  induction xs with
  | nil => rfl
  | cons x xs ih => rw [List.flatMap_cons, ih]; rfl
theorem holds_own {w : World} {B n : Nat} {e : TypeId} {g cap : Nat} {xs : List Int} (h : w.ownsRow B e 1 (.slice (some ⟨g, 0, none⟩) n cap) xs.length (xs.flatMap encI)) : Go.Sort.Holds (Value.int .i64) w g 0 xs.toArray := by
  intro j hj
  have hj' : j < xs.length := by simpa using hj
  obtain ⟨hl, h2⟩ := h
  rcases h2 with ⟨h2, _⟩ | ⟨g', cap', cur, hv, hb, hh, hc, hm, hs, ht⟩
  · cases h2
  · injection hv with e1 e2 e3
    injection e1 with e1
    injection e1 with e1
    subst e1
    have hcur : cur[0 + j]? = some (.int .i64 xs[j]) := by
      have e4 : (cur.toList.take (xs.length * 1))[j]? = cur.toList[j]? := by
        rw [List.getElem?_take, if_pos (by omega)]
      rw [ht, flatI, List.getElem?_map, List.getElem?_eq_getElem hj'] at e4
      rw [Nat.zero_add, ← Array.getElem?_toList, ← e4]; rfl
    constructor
    · unfold World.cell?
      rw [show (⟨g, 0 + j, none⟩ : Addr).block = g from rfl, hh]
      rw [getElem!_pos xs.toArray j hj, List.getElem_toArray]
      simpa [World.cell?] using hcur
    · simp [World.frozen?, hh]
theorem put_own {w : World} {B n m : Nat} {e : TypeId} {g cap : Nat} {xs ys : List Int} (os : Array Obj) (k : Nat) (h : w.ownsRow B e 1 (.slice (some ⟨g, 0, none⟩) n cap) xs.length (xs.flatMap encI)) (hm : m ≤ ys.length) (hy : ys.length = xs.length) :
    (Go.Sort.grow (Go.Sort.putRow (Value.int .i64) (Go.Sort.ahead w k) g 0 ys.toArray) os).ownsRow B e 1 (.slice (some ⟨g, 0, none⟩) m cap) m ((ys.take m).flatMap encI) ∧
    w.grownBy (Go.Sort.grow (Go.Sort.putRow (Value.int .i64) (Go.Sort.ahead w k) g 0 ys.toArray) os) (some g) := by
  obtain ⟨hl, h2⟩ := h
  rcases h2 with ⟨h2, _⟩ | ⟨g', cap', cur, hv, hb, hh, hc, hmx, hs, ht⟩
  · cases h2
  · injection hv with e1 e2 e3
    injection e1 with e1
    injection e1 with e1
    subst e1 e3
    have hg : g < w.heap.size := by
      rcases Nat.lt_or_ge g w.heap.size with q | q
      · exact q
      · rw [Array.getElem?_eq_none q] at hh; cases hh
    have hsz : (Go.Sort.putRow (Value.int .i64) (Go.Sort.ahead w k) g 0 ys.toArray).heap.size = w.heap.size := by
      unfold Go.Sort.putRow Go.Sort.mapBlock Go.Sort.ahead
      simp
    have hblk : (Go.Sort.grow (Go.Sort.putRow (Value.int .i64) (Go.Sort.ahead w k) g 0 ys.toArray) os).heap[g]? = some (.cells (Go.Sort.putCells (Value.int .i64) 0 ys.toArray cur) e (0, 0)) := by
      unfold Go.Sort.grow
      dsimp only
      rw [Array.getElem?_append_left (by rw [hsz]; exact hg)]
      unfold Go.Sort.putRow Go.Sort.mapBlock Go.Sort.ahead
      dsimp only
      rw [Array.getElem?_modify, if_pos rfl, hh]
      rfl
    refine ⟨⟨by rw [flatI]; simp; omega, .inr ⟨g, cap, _, rfl, hb, hblk, by omega, hmx, ?_, ?_⟩⟩, rfl, rfl, rfl, ?_, fun b hb' hne => ?_⟩
    · unfold Go.Sort.putCells; rw [Array.size_mapIdx]; exact hs
    · apply List.ext_getElem?
      intro j
      rw [flatI, Nat.mul_one]
      by_cases hj : j < m
      · rw [List.getElem?_take, if_pos hj, Array.getElem?_toList]
        unfold Go.Sort.putCells
        rw [Array.getElem?_mapIdx]
        have hjc : j < cur.size := by omega
        rw [Array.getElem?_eq_getElem hjc]
        simp only [Option.map_some, Nat.zero_le, true_and, Nat.zero_add, Nat.sub_zero]
        rw [if_pos (by simp; omega), getElem!_pos ys.toArray j (by simp; omega), List.getElem_toArray, List.getElem?_map, List.getElem?_take, if_pos hj, List.getElem?_eq_getElem (by omega)]
        rfl
      · rw [List.getElem?_eq_none (by rw [List.length_take]; omega), List.getElem?_eq_none (by rw [List.length_map, List.length_take]; omega)]
    · unfold Go.Sort.grow
      dsimp only
      rw [Array.size_append, hsz]
      omega
    · unfold Go.Sort.grow
      dsimp only
      rw [Array.getElem?_append_left (by rw [hsz]; exact hb')]
      unfold Go.Sort.putRow Go.Sort.mapBlock Go.Sort.ahead
      dsimp only
      rw [Array.getElem?_modify, if_neg (fun e => hne (by rw [e]))]
/-- slices.Sort of a row of the call's own. -/
theorem sort_own (v : Value) (xs : List Int) (B : Nat) (w : World) (h : w.ownsRow B 3 1 v xs.length (xs.flatMap encI)) (hl : xs.length < 4611686018427387904) :
    Calls Tryz.prog 48 #[v] w fun e w' => e = .returned (.tuple #[]) ∧ w'.ownsRow B 3 1 v (srt xs).length ((srt xs).flatMap encI) ∧ w.grownBy w' v.ownBlock := by
  have h0 := h
  rcases h0.2 with ⟨rfl, hz⟩ | ⟨g, cap, cur, rfl, hb, hh, hc, hmx, hs, ht⟩
  · obtain rfl : xs = [] := List.length_eq_zero_iff.1 hz
    refine (Sh.slices_Sort_int_none none 0 w).mono ?_
    rintro e w' ⟨rfl, rfl⟩
    rw [show srt [] = [] from List.length_eq_zero_iff.1 (srt_len [])]
    exact ⟨rfl, World.ownsRow_nil _ _ _ _, rfl, rfl, rfl, Nat.le_refl _, fun _ _ _ => rfl⟩
  · have hg : g < w.heap.size := by
      rcases Nat.lt_or_ge g w.heap.size with q | q
      · exact q
      · rw [Array.getElem?_eq_none q] at hh; cases hh
    refine (Sh.slices_Sort_int g 0 cap xs w (holds_own h) hg hl).mono ?_
    rintro e w' ⟨rfl, n, os, rfl⟩
    have hp := put_own (m := xs.length) (ys := srt xs) os n h (by rw [srt_len]; exact Nat.le_refl _) (srt_len xs)
    rw [show (srt xs).take xs.length = srt xs from List.take_of_length_le (by rw [srt_len]; exact Nat.le_refl _)] at hp
    rw [srt_len]
    exact ⟨rfl, hp.1, hp.2⟩
/-- slices.Compact of a row of the call's own. -/
theorem compact_own (v : Value) (xs : List Int) (B : Nat) (w : World) (h : w.ownsRow B 3 1 v xs.length (xs.flatMap encI)) :
    Calls Tryz.prog 49 #[v] w fun e w' => ∃ v', e = .returned v' ∧ w'.ownsRow B 3 1 v' (Lib.compact xs).length ((Lib.compact xs).flatMap encI) ∧ w.grownBy w' v.ownBlock ∧ v'.ownBlock = v.ownBlock := by
  have h0 := h
  rcases h0.2 with ⟨rfl, hz⟩ | ⟨g, cap, cur, rfl, hb, hh, hc, hmx, hs, ht⟩
  · obtain rfl : xs = [] := List.length_eq_zero_iff.1 hz
    refine (Sh.slices_Compact_int_empty none 0 w).mono ?_
    rintro e w' ⟨rfl, rfl⟩
    exact ⟨_, rfl, World.ownsRow_nil _ _ _ _, ⟨rfl, rfl, rfl, Nat.le_refl _, fun _ _ _ => rfl⟩, rfl⟩
  · refine (Sh.slices_Compact_int g 0 cap xs w (holds_own h) (by unfold maxLen at hmx; omega) hc).mono ?_
    rintro e w' ⟨rfl, q, rfl⟩
    have hcl := compact_le xs
    have hp := put_own (m := (Lib.compact xs).length) (ys := Lib.compact xs ++ List.replicate (xs.length - (Lib.compact xs).length) 0) #[] q h (by simp) (by simp; omega)
    rw [Go.Sort.grow_empty, List.take_left'] at hp
    · exact ⟨_, rfl, hp.1, hp.2, rfl⟩
    · rfl
end Go.Proofs.YtcmlcmokjgkciaaGreatDoor

namespace Go.Proofs.YtcmlcmokjgkciaaGreatDoor
set_option linter.unusedVariables false
set_option linter.unusedSimpArgs false
open Go.ChangeShapes Go.WideShapes Go.ChangeAt Go.RowKit Civ

def encQ (x : Spn) : List Value := [.int .i64 x.fr, .int .i64 x.ck.off, .bool x.ck.sav, .string x.ck.nm]
theorem encQ_one (x : Spn) : ∀ u ∈ encQ x, u.oneCell' = true := by
  intro u hu
  simp [encQ] at hu
  rcases hu with rfl | rfl | rfl | rfl <;> rfl
theorem info_spn : (Tryz.prog.info? 54).map (fun i => (i.zero, i.size, i.bytes)) = some (some (.agg #[.int .i64 0, .int .i64 0, .bool false, .string ⟨#[]⟩]), 4, 40) := by kernel_rfl
/-- boxes of other types, but for one, are as they were. -/
def KpS (O : Nat) (w w' : World) : Prop := ∀ (b : Nat) (cs : Array Value) (t : TypeId), BxO w b cs t → t ≠ 54 → b ≠ O → BxO w' b cs t
theorem KpS.refl (O : Nat) (w : World) : KpS O w w := fun _ _ _ h _ _ => h
theorem KpS.trans {O : Nat} {w w1 w2 : World} (h : KpS O w w1) (g : KpS O w1 w2) : KpS O w w2 := fun b cs t h1 h2 h3 => g b cs t (h b cs t h1 h2 h3) h2 h3
theorem KpS.of_below {O : Nat} {w w' : World} (hb : Below w.heap.size w w') : KpS O w w' := fun b cs t h _ _ => (hb.block _ h.lt).trans h
theorem KpS.own {O D n sz : Nat} {w w' : World} {e : TypeId} {v : Value} {xs : List Value} (h : KpS O w w') (ho : w.ownsRow D e sz v n xs) (he : e ≠ 54) (hO : v.ownBlock ≠ some O) : w'.ownsRow D e sz v n xs := by
  obtain ⟨h1, h2⟩ := ho
  refine ⟨h1, ?_⟩
  rcases h2 with h2 | ⟨g, cap, cur, hv, hg, hh, r⟩
  · exact .inl h2
  · exact .inr ⟨g, cap, cur, hv, hg, h g cur e hh he (fun e' => hO (by rw [hv, ← e']; rfl)), r⟩
/-- a row that is read, where its own block is as it was. -/
theorem slAt_block {α : Type} {w w' : World} {sz : Nat} {R : List Value → α → Prop} {v : Value} {xs : List α} (h : SlAt w sz R v xs) (hs : w.heap.size ≤ w'.heap.size) (hb : xs ≠ [] → ∀ b o n c, v = .slice (some ⟨b, o, none⟩) n c → w'.heap[b]? = w.heap[b]?) : SlAt w' sz R v xs := by
  rcases h with h | ⟨d, off, cap, hv, p0, p1, p2, p3, p4⟩
  · exact .inl h
  · refine .inr ⟨d, off, cap, hv, p0, p1, p2, by omega, fun i hi => ?_⟩
    obtain ⟨cs, h1, h2, h3⟩ := p4 i hi
    exact ⟨cs, h1, h2, fun j hj => (World.cell?_of_block (a := ⟨d, _, none⟩) (hb (fun e => by rw [e] at hi; simp at hi) d off _ _ hv)).trans (h3 j hj)⟩
/-- what the closure holds: a source, an era, its changes; spans that are told so far. -/
structure AdB (w0 w : World) (S E C O D : Nat) (vr vz vl vT vo : Value) (x : Ero) (T : List Trn) (l : List Spn) : Prop where
  s : BxO w S #[vr, vz, vl] 29
  e : BxO w E #[.int .i64 x.off, .string x.rl, .int .i64 x.sv, .string x.fm, .bool x.en, .int .i64 x.yr, .int .i64 x.un.mo, .int .i64 x.un.k, .int .i64 x.un.a, .int .i64 x.un.n, .int .i64 x.un.t, .int .i64 x.un.c] 38
  c : BxO w C #[vT] 100
  o : BxO w O #[vo] 46
  r : w.ownsRow D 54 4 vo l.length (l.flatMap encQ)
  t : SlAt w 4 RChg vT T
  a : T ≠ [] → ∀ b o n c, vT = .slice (some ⟨b, o, none⟩) n c → vo.ownBlock ≠ some b ∧ b ≠ O ∧ b < w.heap.size
  b : Below w0.heap.size w0 w
  d0 : w0.heap.size ≤ D
  d1 : D ≤ w.heap.size
  no : S ≠ O ∧ E ≠ O ∧ C ≠ O ∧ D ≤ O
theorem AdB.next {w0 w w' : World} {S E C O D : Nat} {vr vz vl vT vo : Value} {x : Ero} {T : List Trn} {l : List Spn} (h : AdB w0 w S E C O D vr vz vl vT vo x T l) (hb : Below w.heap.size w w') : AdB w0 w' S E C O D vr vz vl vT vo x T l :=
  ⟨(hb.block _ h.s.lt).trans h.s, (hb.block _ h.e.lt).trans h.e, (hb.block _ h.c.lt).trans h.c, (hb.block _ h.o.lt).trans h.o, ownsRow_below h.r hb (Nat.le_refl _),
    slAt_block h.t hb.size (fun hn b o n c e => hb.block _ (h.a hn b o n c e).2.2), fun hn b o n c e => ⟨(h.a hn b o n c e).1, (h.a hn b o n c e).2.1, Nat.lt_of_lt_of_le (h.a hn b o n c e).2.2 hb.size⟩, h.b.trans (hb.mono h.b.size), h.d0, Nat.le_trans h.d1 hb.size, h.no⟩
theorem BxO.grown {w w' : World} {b : Nat} {cs : Array Value} {t e : TypeId} {D sz n : Nat} {v : Value} {xs : List Value} {o : Obj} (h : BxO w b cs t) (ho : w.ownsRow D e sz v n xs) (hne : t ≠ e) (hg : (w.alloc o).grownBy w' v.ownBlock) : BxO w' b cs t := by
  refine (h.alloc o).kept hg ?_
  rcases ho.2 with ⟨rfl, -⟩ | ⟨g, cap, cur, rfl, -, hh, -⟩
  · simp [Value.ownBlock]
  · intro e'
    have e' : b = g := by simpa [Value.ownBlock] using e'
    subst e'
    have h2 : w.heap[b]? = some (.cells cs t (0, 0)) := h
    rw [hh] at h2
    simp only [Option.some.injEq, Obj.cells.injEq] at h2
    exact hne h2.2.1.symm
theorem own_set {w : World} {b D n sz : Nat} {cs : Array Value} {t e : TypeId} {v : Value} {xs : List Value} (ho : w.ownsRow D e sz v n xs) (hb : BxO w b cs t) (hne : t ≠ e) (u : Value) : (w.setCell ⟨b, 0, none⟩ u).ownsRow D e sz v n xs := by
  obtain ⟨h1, h2⟩ := ho
  refine ⟨h1, ?_⟩
  rcases h2 with h2 | ⟨g, cap, cur, hv, hg, hh, r⟩
  · exact .inl h2
  · refine .inr ⟨g, cap, cur, hv, hg, (Below.heap_setCell _ _ _ _ ?_).trans hh, r⟩
    intro e'
    subst e'
    have h2 : w.heap[g]? = some (.cells cs t (0, 0)) := hb
    rw [hh] at h2
    simp only [Option.some.injEq, Obj.cells.injEq] at h2
    exact hne h2.2.1.symm
/-- a span more. -/
theorem AdB.put {w0 w w' : World} {S E C O D : Nat} {vr vz vl vT vo vo' : Value} {x : Ero} {T : List Trn} {l : List Spn} {y : Spn} {ob : Obj} (h : AdB w0 w S E C O D vr vz vl vT vo x T l)
    (ho : w'.ownsRow D 54 4 vo' (l.length + 1) (l.flatMap encQ ++ encQ y)) (hg : (w.alloc ob).grownBy w' vo.ownBlock) (hf : vo'.ownBlock = vo.ownBlock ∨ vo'.ownBlock = some (w.alloc ob).heap.size) :
    AdB w0 (w'.setCell ⟨O, 0, none⟩ vo') S E C O D vr vz vl vT vo' x T (l ++ [y]) ∧ KpS O w (w'.setCell ⟨O, 0, none⟩ vo') ∧ Below D w (w'.setCell ⟨O, 0, none⟩ vo') := by
  have hO := h.o.grown h.r (by decide) hg
  have hbel : Below D w w' := append_keep h.r ((Below.refl D w).alloc h.d1 _) h.d1 hg
  have hsz : w.heap.size + 1 ≤ w'.heap.size := by have := hg.size; rwa [size_alloc] at this
  refine ⟨⟨BxO.other (h.s.grown h.r (by decide) hg) h.no.1 _ _, BxO.other (h.e.grown h.r (by decide) hg) h.no.2.1 _ _, BxO.other (h.c.grown h.r (by decide) hg) h.no.2.2.1 _ _, hO.set0 _, own_set (own_snocG ho) hO (by decide) _, ?_, ?_, ?_, h.d0, ?_, h.no⟩, ?_, ?_⟩
  · refine slAt_block h.t (by rw [World.size_setCell]; omega) fun hn b o n c e => ?_
    obtain ⟨a1, a2, a3⟩ := h.a hn b o n c e
    refine (Below.heap_setCell _ _ _ _ a2).trans ((hg.block b (by rw [size_alloc]; omega) (fun e' => a1 e'.symm)).trans ?_)
    exact (World.grownBy_alloc w _ none).block b a3 (by simp)
  · intro hn b o n c e
    obtain ⟨a1, a2, a3⟩ := h.a hn b o n c e
    refine ⟨?_, a2, by rw [World.size_setCell]; omega⟩
    rcases hf with hf | hf
    · rw [hf]; exact a1
    · rw [hf, size_alloc]
      intro e'
      have : w.heap.size + 1 = b := Option.some.inj e'
      omega
  · exact (h.b.trans (hbel.mono h.d0)).setCell (p := ⟨O, 0, none⟩) (Nat.le_trans h.d0 h.no.2.2.2) _
  · rw [World.size_setCell]; have := h.d1; omega
  · intro b cs t hb ht hbO
    exact BxO.other (hb.grown h.r ht hg) hbO _ _
  · exact hbel.setCell (p := ⟨O, 0, none⟩) h.no.2.2.2 _
/-- a span more: a clock at an instant, unless it is the last one's. -/
def addQ (l : List Spn) (t : Int) (ck : Clk) : List Spn := match l.getLast? with
  | some p => if p.ck = ck then l else l ++ [⟨t, ck⟩]
  | none => [⟨t, ck⟩]
theorem addP_q (C : Int → Clk) (l : List Spn) (t : Int) : addP C l t = addQ l t (C t) := rfl
theorem addQ_len (l : List Spn) (t : Int) (ck : Clk) : (addQ l t ck).length ≤ l.length + 1 := by
  unfold addQ
  split
  · split
    · omega
    · simp
  · simp
theorem spn_of_own {w : World} {D co : Nat} {ao : Option Addr} {l : List Spn} (h : w.ownsRow D 54 4 (.slice ao l.length co) l.length (l.flatMap encQ)) (k : Nat) (hk : k < l.length) :
    ∃ b, ao = some ⟨b, 0, none⟩ ∧ b < w.heap.size ∧ w.cell? ⟨b, k * 4, none⟩ = some (.int .i64 l[k].fr) ∧ w.cell? ⟨b, k * 4 + 1, none⟩ = some (.int .i64 l[k].ck.off) ∧ w.cell? ⟨b, k * 4 + 2, none⟩ = some (.bool l[k].ck.sav) ∧ w.cell? ⟨b, k * 4 + 3, none⟩ = some (.string l[k].ck.nm) := by
  rcases h.2 with ⟨e, h0⟩ | ⟨g, cap, cur, e, hb, hh, hc, hm, hs', ht⟩
  · omega
  · simp only [Value.slice.injEq] at e
    obtain ⟨rfl, -, rfl⟩ := e
    have f : ∀ j, j < 4 → w.cell? ⟨g, k * 4 + j, none⟩ = (encQ l[k])[j]? := fun j hj => by
      rw [h.cellAt _ (by omega)]
      exact flat_at (sz := 4) (enc := encQ) (fun _ => rfl) l k j hk hj
    exact ⟨g, rfl, (h.lt g rfl).2, f 0 (by decide), f 1 (by decide), f 2 (by decide), f 3 (by decide)⟩
set_option maxHeartbeats 4000000 in
set_option maxRecDepth 100000 in
theorem add_any (s : Src) (t : Int) (w0 w : World) (S E C O D : Nat) (vr vz vl vT vo : Value) (x : Ero) (T : List Trn) (l : List Spn) (h : AdB w0 w S E C O D vr vz vl vT vo x T l) (hs : SrcAt w0 vr vz vl s)
    (hc : COk x (stL s.rules x T t).1 (stL s.rules x T t).2) (hM : MxL w) (hl : l.length ≤ 1000000) :
    Calls Tryz.prog 46 #[.int .i64 t, .pointer (some ⟨S, 0, none⟩), .pointer (some ⟨E, 0, none⟩), .pointer (some ⟨C, 0, none⟩), .pointer (some ⟨O, 0, none⟩)] w
      fun e w' => e = .returned (.tuple #[]) ∧ ∃ vo', AdB w0 w' S E C O D vr vz vl vT vo' x T (addQ l t (clkE x (stL s.rules x T t))) ∧ KpS O w w' ∧ Below D w w' := by
  have HA := Lib.hid h
  have HST := Lib.hid (state_any s x t vr vz vl vT T w (hs.mono h.b) h.t)
  have HCL := Lib.hid (fun wx (hb : Below w.heap.size w wx) => clock_any x (stL s.rules x T t).1 (stL s.rules x T t).2 wx hc (hM.below hb))
  generalize stL s.rules x T t = P at *
  obtain ⟨P1, P2⟩ := P
  dsimp only at HST HCL
  obtain ⟨ck, hck⟩ : ∃ ck, clkE x (P1, P2) = ck := ⟨_, rfl⟩
  rw [hck] at HCL ⊢
  obtain ⟨ko, ks, kn⟩ := ck
  dsimp only at HCL
  obtain ⟨av, cv, rfl⟩ := own_shape h.r
  obtain ⟨aT, cT, rfl, -⟩ := h.t.shape
  clear h hs hc hM hck
  have s0 : w.cell? ⟨S, 0, none⟩ = some vr := HA.out.s.cell 0
  have s1 : w.cell? ⟨S, 1, none⟩ = some vz := HA.out.s.cell 1
  have s2 : w.cell? ⟨S, 2, none⟩ = some vl := HA.out.s.cell 2
  obtain ⟨e0, e1, e2, e3, e4, e5, e6, e7, e8, e9, e10, e11, -, -, -, -, -, -, -, -, -, -, -, -, -⟩ := HA.out.e.twelve
  have c0 : w.cell? ⟨C, 0, none⟩ = some (.slice aT T.length cT) := HA.out.c.cell 0
  go_enter Tryz.func46, Tryz.ntmps46
  go_wp2_with fail
  refine HST.out.mono ?_; rintro e w1 ⟨rfl, hb1⟩
  have A1 := Lib.hid (HA.out.next hb1)
  have HB1 := Lib.hid hb1
  clear hb1 s0 s1 s2 e0 e1 e2 e3 e4 e5 e6 e7 e8 e9 e10 e11 c0
  obtain ⟨e0, e1, e2, e3, e4, e5, e6, e7, e8, e9, e10, e11, -, -, -, -, -, -, -, -, -, -, -, -, -⟩ := A1.out.e.twelve
  go_wp2_with fail
  refine (HCL.out _ HB1.out).mono ?_; rintro e w2 ⟨rfl, hb2⟩
  have A2 := Lib.hid (A1.out.next hb2)
  have HB2 := Lib.hid (HB1.out.trans (hb2.mono HB1.out.size))
  clear hb2 e0 e1 e2 e3 e4 e5 e6 e7 e8 e9 e10 e11 HCL HST
  obtain ⟨W3, hW3⟩ : ∃ W3, W3 = w2.alloc (.cells #[.int .i64 ko, .bool ks, .string kn] 52) := ⟨_, rfl⟩
  have A3 : Hid (AdB w0 W3 S E C O D vr vz vl (.slice aT T.length cT) (.slice av l.length cv) x T l) := by show AdB _ _ _ _ _ _ _ _ _ _ _ _ _ _ _; rw [hW3]; exact A2.out.next ((Below.refl _ _).alloc (Nat.le_refl _) _)
  have HB3 : Hid (Below w.heap.size w W3) := by show Below _ _ _; rw [hW3]; exact HB2.out.alloc HB2.out.size _
  have X3 : Hid (BxO W3 w2.heap.size #[.int .i64 ko, .bool ks, .string kn] 52) := by show BxO _ _ _ _; rw [hW3]; exact BxO.new _ _ _
  have HW3 := Lib.hid hW3
  clear hW3
  go_upto_region 2 with fail
  rw [← HW3.out]
  clear HW3 A1 A2 HB1 HB2
  have o0 : W3.cell? ⟨O, 0, none⟩ = some (.slice av l.length cv) := A3.out.o.cell 0
  have of : W3.frozen? ⟨O, 0, none⟩ = false := A3.out.o.frozen 0
  have oz : O < W3.heap.size := A3.out.o.lt
  have k0 : W3.cell? ⟨w2.heap.size, 0, none⟩ = some (.int .i64 ko) := X3.out.cell 0
  have k1 : W3.cell? ⟨w2.heap.size, 1, none⟩ = some (.bool ks) := X3.out.cell 1
  have k2 : W3.cell? ⟨w2.heap.size, 2, none⟩ = some (.string kn) := X3.out.cell 2
  have kz : w2.heap.size < W3.heap.size := X3.out.lt
  obtain ⟨i0, hi, hz0, hz1, hz2⟩ := info_parts info_spn
  cases hq : l.getLast? with
  | none =>
    have hl0 : l = [] := List.getLast?_eq_none_iff.1 hq
    have HQ : Hid (addQ l t ⟨ko, ks, kn⟩ = l ++ [⟨t, ⟨ko, ks, kn⟩⟩]) := by show _ = _; rw [hl0]; rfl
    have hn0 : ((l.length : Int) == 0) = true := by rw [hl0]; rfl
    clear hq hl0
    go_wp2_with fail
    go_quiet (fail)
    go_upto_region 4 with fail
    obtain ⟨W4, hW4⟩ : ∃ W4, W3.drewN nq = W4 := ⟨_, rfl⟩
    rw [hW4]
    have HB4 : Hid (Below W3.heap.size W3 W4) := by show Below _ _ _; rw [← hW4]; exact below_draws (Below.refl _ _) nq
    clear hW4 o0 of oz k0 k1 k2 kz
    have A4 := Lib.hid (A3.out.next HB4.out)
    have X4 : Hid (BxO W4 w2.heap.size #[.int .i64 ko, .bool ks, .string kn] 52) := (HB4.out.block _ X3.out.lt).trans X3.out
    have o0 : W4.cell? ⟨O, 0, none⟩ = some (.slice av l.length cv) := A4.out.o.cell 0
    have of : W4.frozen? ⟨O, 0, none⟩ = false := A4.out.o.frozen 0
    have oz : O < W4.heap.size := A4.out.o.lt
    have k0 : W4.cell? ⟨w2.heap.size, 0, none⟩ = some (.int .i64 ko) := X4.out.cell 0
    have k1 : W4.cell? ⟨w2.heap.size, 1, none⟩ = some (.bool ks) := X4.out.cell 1
    have k2 : W4.cell? ⟨w2.heap.size, 2, none⟩ = some (.string kn) := X4.out.cell 2
    have kz : w2.heap.size < W4.heap.size := X4.out.lt
    go_wp2_with (at_builtin; refine wpList_append_own_at _ rfl (.tmp 36) (.tmp 40) 46 rfl D 54 i0 (.agg #[.int .i64 0, .int .i64 0, .bool false, .string ⟨#[]⟩]) 4 40 Tryz.underlying46 hi hz0 hz1 hz2 rfl (by decide) (.slice av l.length cv) l.length (l.flatMap encQ) rfl (A4.out.r.alloc _) ⟨W4.heap.size, 0, none⟩ 1 1 (encQ ⟨t, ⟨ko, ks, kn⟩⟩) rfl rfl (cells_at _ _ _ _ _ rfl rfl) (encQ_one _) (by unfold maxLen; omega) (by omega) (by rw [size_alloc]; have := A4.out.d1; omega) ?_; intro v' w5 hown hgrow _ hfr; have P4 := Lib.hid (A4.out.put (y := ⟨t, ⟨ko, ks, kn⟩⟩) hown hgrow hfr); obtain ⟨a5, c5, rfl⟩ := own_shape hown; have H5 := Lib.hid (BxO.grown A4.out.o A4.out.r (by decide) hgrow); have o5 : w5.cell? ⟨O, 0, none⟩ = some (.slice av l.length cv) := H5.out.cell 0; have f5 : w5.frozen? ⟨O, 0, none⟩ = false := H5.out.frozen 0; have z5 : O < w5.heap.size := H5.out.lt; clear hown hgrow hfr o0 of oz k0 k1 k2 kz)
    go_end0
    exact ⟨rfl, _, by rw [HQ.out]; exact P4.out.1, (KpS.of_below HB3.out).trans ((KpS.of_below HB4.out).trans P4.out.2.1), HB3.out.mono HA.out.d1 |>.trans ((HB4.out.mono A3.out.d1).trans P4.out.2.2)⟩
  | some p =>
    obtain ⟨l', hl'⟩ := List.getLast?_eq_some_iff.1 hq
    obtain ⟨m, hm⟩ : ∃ m, l.length = m + 1 := ⟨l'.length, by rw [hl']; simp⟩
    have hlm : l[m]'(by omega) = p := by
      have : l'.length = m := by rw [hl'] at hm; simpa using hm
      subst this
      simp [hl']
    obtain ⟨bv, rfl, hbv, -, p1, p2, p3⟩ := spn_of_own A3.out.r m (by omega)
    rw [hlm] at p1 p2 p3
    have hmi : (m : Int) < (l.length : Int) := by omega
    have hn0 : ((l.length : Int) == 0) = false := by rw [beq_eq_false_iff_ne]; omega
    have tw : IntKind.i64.wrap ((l.length : Int) - 1) = (m : Int) := by rw [IntWalk.i64_in _ (by omega)]; omega
    have HQ0 : Hid (addQ l t ⟨ko, ks, kn⟩ = if p.ck = ⟨ko, ks, kn⟩ then l else l ++ [⟨t, ⟨ko, ks, kn⟩⟩]) := by show _ = _; unfold addQ; rw [hq]
    clear hq hl' hlm hm
    obtain ⟨pf, ⟨po, ps, pn⟩⟩ := p
    dsimp only at p1 p2 p3
    by_cases he : (⟨po, ps, pn⟩ : Clk) = ⟨ko, ks, kn⟩
    · have HQ : Hid (addQ l t ⟨ko, ks, kn⟩ = l) := by show _ = _; rw [HQ0.out]; exact if_pos he
      simp only [Clk.mk.injEq] at he
      obtain ⟨rfl, rfl, rfl⟩ := he
      clear HQ0
      go_wp2_with fail
      go_quiet (fail)
      go_wp2
      go_end0
      exact ⟨rfl, _, by rw [HQ.out]; exact A3.out.next (below_draws (Below.refl _ _) nq), (KpS.of_below HB3.out).trans (KpS.of_below (below_draws (Below.refl _ _) nq)), below_draws (HB3.out.mono HA.out.d1) nq⟩
    · have HQ : Hid (addQ l t ⟨ko, ks, kn⟩ = l ++ [⟨t, ⟨ko, ks, kn⟩⟩]) := by show _ = _; rw [HQ0.out]; exact if_neg he
      have hb : (po == ko) = false ∨ ((po == ko) = true ∧ (ps == ks) = false) ∨ ((po == ko) = true ∧ (ps == ks) = true ∧ (pn.toList == kn.toList) = false) := by
        by_cases h1 : po = ko
        · right
          by_cases h2 : ps = ks
          · right
            refine ⟨by simp [h1], by simp [h2], ?_⟩
            rw [streq, decide_eq_false_iff_not]
            intro h3
            exact he (by rw [h1, h2, h3])
          · left
            exact ⟨by simp [h1], beq_eq_false_iff_ne.2 h2⟩
        · left
          exact beq_eq_false_iff_ne.2 h1
      clear he HQ0
      rcases hb with h1 | ⟨h1, h2⟩ | ⟨h1, h2, h3⟩
      all_goals
        go_wp2_with fail
        go_quiet (fail)
        clear p1 p2 p3
        go_upto_region 4 with fail
        obtain ⟨W4, hW4⟩ : ∃ W4, W3.drewN nq = W4 := ⟨_, rfl⟩
        rw [hW4]
        have HB4 : Hid (Below W3.heap.size W3 W4) := by show Below _ _ _; rw [← hW4]; exact below_draws (Below.refl _ _) nq
        clear hW4 o0 of oz k0 k1 k2 kz
        have A4 := Lib.hid (A3.out.next HB4.out)
        have X4 : Hid (BxO W4 w2.heap.size #[.int .i64 ko, .bool ks, .string kn] 52) := (HB4.out.block _ X3.out.lt).trans X3.out
        have o0 : W4.cell? ⟨O, 0, none⟩ = some (.slice (some ⟨bv, 0, none⟩) l.length cv) := A4.out.o.cell 0
        have of : W4.frozen? ⟨O, 0, none⟩ = false := A4.out.o.frozen 0
        have oz : O < W4.heap.size := A4.out.o.lt
        have k0 : W4.cell? ⟨w2.heap.size, 0, none⟩ = some (.int .i64 ko) := X4.out.cell 0
        have k1 : W4.cell? ⟨w2.heap.size, 1, none⟩ = some (.bool ks) := X4.out.cell 1
        have k2 : W4.cell? ⟨w2.heap.size, 2, none⟩ = some (.string kn) := X4.out.cell 2
        have kz : w2.heap.size < W4.heap.size := X4.out.lt
        go_wp2_with (at_builtin; refine wpList_append_own_at _ rfl (.tmp 36) (.tmp 40) 46 rfl D 54 i0 (.agg #[.int .i64 0, .int .i64 0, .bool false, .string ⟨#[]⟩]) 4 40 Tryz.underlying46 hi hz0 hz1 hz2 rfl (by decide) (.slice (some ⟨bv, 0, none⟩) l.length cv) l.length (l.flatMap encQ) rfl (A4.out.r.alloc _) ⟨W4.heap.size, 0, none⟩ 1 1 (encQ ⟨t, ⟨ko, ks, kn⟩⟩) rfl rfl (cells_at _ _ _ _ _ rfl rfl) (encQ_one _) (by unfold maxLen; omega) (by omega) (by rw [size_alloc]; have := A4.out.d1; omega) ?_; intro v' w5 hown hgrow _ hfr; have P4 := Lib.hid (A4.out.put (y := ⟨t, ⟨ko, ks, kn⟩⟩) hown hgrow hfr); obtain ⟨a5, c5, rfl⟩ := own_shape hown; have H5 := Lib.hid (BxO.grown A4.out.o A4.out.r (by decide) hgrow); have o5 : w5.cell? ⟨O, 0, none⟩ = some (.slice (some ⟨bv, 0, none⟩) l.length cv) := H5.out.cell 0; have f5 : w5.frozen? ⟨O, 0, none⟩ = false := H5.out.frozen 0; have z5 : O < w5.heap.size := H5.out.lt; clear hown hgrow hfr o0 of oz k0 k1 k2 kz)
        go_end0
        exact ⟨rfl, _, by rw [HQ.out]; exact P4.out.1, (KpS.of_below HB3.out).trans ((KpS.of_below HB4.out).trans P4.out.2.1), HB3.out.mono HA.out.d1 |>.trans ((HB4.out.mono A3.out.d1).trans P4.out.2.2)⟩
end Go.Proofs.YtcmlcmokjgkciaaGreatDoor

namespace Go.Proofs.YtcmlcmokjgkciaaGreatDoor
set_option linter.unusedVariables false
set_option linter.unusedSimpArgs false
open Go.ChangeShapes Go.WideShapes Go.ChangeAt Go.RowKit Civ

/-- boxes of other types are as they were. -/
def KpN (w w' : World) : Prop := ∀ (b : Nat) (cs : Array Value) (t : TypeId), BxO w b cs t → t ≠ 54 → BxO w' b cs t
theorem spnI_fold {rules : List Rul} {x : Ero} {lo hi : Int} (h : lo < hi) (l : List Spn) : spnI rules x lo hi l = (lo :: chgI rules x lo hi).foldl (addP (clkI rules x)) l := by
  unfold spnI ptsI
  rw [if_pos h]
theorem foldP_len (C : Int → Clk) : ∀ (P : List Int) (l : List Spn), (P.foldl (addP C) l).length ≤ l.length + P.length
  | [], l => by simp
  | t :: P, l => by
    have h1 := foldP_len C P (addP C l t)
    have h2 := addQ_len l t (C t)
    rw [← addP_q] at h2
    rw [List.foldl_cons, List.length_cons]
    omega
/-- the turns within the window, of the first so many. -/
def atK (lo hi : Int) (T : List Trn) (k : Nat) : List Int := ((T.take k).map Trn.ins).filter (fun t => decide (lo < t) && decide (t < hi))
theorem atK_succ {lo hi : Int} {T : List Trn} {k : Nat} (h : k < T.length) : atK lo hi T (k + 1) = if lo < T[k].ins ∧ T[k].ins < hi then atK lo hi T k ++ [T[k].ins] else atK lo hi T k := by
  unfold atK
  rw [List.take_succ_eq_append_getElem h, List.map_append, List.filter_append]
  by_cases h1 : lo < T[k].ins ∧ T[k].ins < hi
  · rw [if_pos h1]
    simp [h1]
  · rw [if_neg h1]
    have : (decide (lo < T[k].ins) && decide (T[k].ins < hi)) = false := by
      rw [Bool.and_eq_false_iff, decide_eq_false_iff_not, decide_eq_false_iff_not]
      by_cases h2 : lo < T[k].ins
      · exact .inr fun h3 => h1 ⟨h2, h3⟩
      · exact .inl h2
    simp [this]
theorem atK_len (lo hi : Int) (T : List Trn) (k : Nat) : (atK lo hi T k).length ≤ T.length := by
  unfold atK
  refine Nat.le_trans (List.length_filter_le _ _) ?_
  rw [List.length_map, List.length_take]
  omega
/-- what zones.spans begins with. -/
structure SpS (w wx : World) (vr vz vl vo : Value) (x : Ero) (D : Nat) (l : List Spn) : Prop where
  o : BxO wx w.heap.size #[vo] 46
  s : BxO wx (w.heap.size + 1) #[vr, vz, vl] 29
  e : BxO wx (w.heap.size + 1 + 1) #[.int .i64 x.off, .string x.rl, .int .i64 x.sv, .string x.fm, .bool x.en, .int .i64 x.yr, .int .i64 x.un.mo, .int .i64 x.un.k, .int .i64 x.un.a, .int .i64 x.un.n, .int .i64 x.un.t, .int .i64 x.un.c] 38
  r : wx.ownsRow D 54 4 vo l.length (l.flatMap encQ)
  b : Below w.heap.size w wx
theorem SpS.next {w wx w' : World} {vr vz vl vo : Value} {x : Ero} {D : Nat} {l : List Spn} (h : SpS w wx vr vz vl vo x D l) (hb : Below wx.heap.size wx w') : SpS w w' vr vz vl vo x D l :=
  ⟨(hb.block _ h.o.lt).trans h.o, (hb.block _ h.s.lt).trans h.s, (hb.block _ h.e.lt).trans h.e, ownsRow_below h.r hb (Nat.le_refl _), h.b.trans (hb.mono h.b.size)⟩
theorem SpS.new {w : World} {vr vz vl vo : Value} {x : Ero} {D : Nat} {l : List Spn} (h : w.ownsRow D 54 4 vo l.length (l.flatMap encQ)) :
    SpS w (((w.alloc (.cells #[vo] 46)).alloc (.cells #[vr, vz, vl] 29)).alloc (.cells #[.int .i64 x.off, .string x.rl, .int .i64 x.sv, .string x.fm, .bool x.en, .int .i64 x.yr, .int .i64 x.un.mo, .int .i64 x.un.k, .int .i64 x.un.a, .int .i64 x.un.n, .int .i64 x.un.t, .int .i64 x.un.c] 38)) vr vz vl vo x D l := by
  have h1 := size_alloc w (.cells #[vo] 46)
  have h2 := size_alloc (w.alloc (.cells #[vo] 46)) (.cells #[vr, vz, vl] 29)
  refine ⟨((BxO.new w _ _).alloc _).alloc _, ?_, ?_, ((h.alloc _).alloc _).alloc _, ((Below.refl _ _).alloc (Nat.le_refl _) _).alloc (by omega) _ |>.alloc (by omega) _⟩
  · refine BxO.alloc ?_ _
    have h := BxO.new (w.alloc (.cells #[vo] 46)) #[vr, vz, vl] 29
    rw [h1] at h
    exact h
  · have h := BxO.new ((w.alloc (.cells #[vo] 46)).alloc (.cells #[vr, vz, vl] 29)) #[.int .i64 x.off, .string x.rl, .int .i64 x.sv, .string x.fm, .bool x.en, .int .i64 x.yr, .int .i64 x.un.mo, .int .i64 x.un.k, .int .i64 x.un.a, .int .i64 x.un.n, .int .i64 x.un.t, .int .i64 x.un.c] 38
    rw [h2, h1] at h
    exact h
set_option maxHeartbeats 4000000 in
set_option maxRecDepth 100000 in
theorem spans_any (s : Src) (x : Ero) (lo hi : Int) (l : List Spn) (vr vz vl vo : Value) (D : Nat) (w0 w : World) (hs : SrcAt w0 vr vz vl s) (hb : Below w0.heap.size w0 w) (ho : w.ownsRow D 54 4 vo l.length (l.flatMap encQ))
    (d0 : w0.heap.size ≤ D) (d1 : D ≤ w.heap.size) (hT : Tab w) (hM : MxL w0) (hr : ROk s x) (hc : ∀ t, COk x (stL s.rules x (trE s.rules x) t).1 (stL s.rules x (trE s.rules x) t).2) (hl : l.length ≤ 900000) (hlh : lo < hi) :
    Calls Tryz.prog 21 #[vo, .agg #[vr, vz, vl], .agg #[.int .i64 x.off, .string x.rl, .int .i64 x.sv, .string x.fm, .bool x.en, .int .i64 x.yr, .int .i64 x.un.mo, .int .i64 x.un.k, .int .i64 x.un.a, .int .i64 x.un.n, .int .i64 x.un.t, .int .i64 x.un.c], .int .i64 lo, .int .i64 hi] w
      fun e w' => ∃ vo', e = .returned vo' ∧ w'.ownsRow D 54 4 vo' (spnI s.rules x lo hi l).length ((spnI s.rules x lo hi l).flatMap encQ) ∧ KpN w w' ∧ Below D w w' := by
  have Q0 := Lib.hid (SpS.new (vr := vr) (vz := vz) (vl := vl) (x := x) ho)
  obtain ⟨W0, hW0⟩ : ∃ W0, W0 = ((w.alloc (.cells #[vo] 46)).alloc (.cells #[vr, vz, vl] 29)).alloc (.cells #[.int .i64 x.off, .string x.rl, .int .i64 x.sv, .string x.fm, .bool x.en, .int .i64 x.yr, .int .i64 x.un.mo, .int .i64 x.un.k, .int .i64 x.un.a, .int .i64 x.un.n, .int .i64 x.un.t, .int .i64 x.un.c] 38) := ⟨_, rfl⟩
  rw [← hW0] at Q0
  have HW := Lib.hid hW0
  have HCH := Lib.hid (fun wx (h : Below w.heap.size w wx) => changes_own s x vr vz vl wx (hs.mono (hb.trans (h.mono hb.size))) (hT.below h) hr)
  have HTL0 : Hid ((trE s.rules x).length ≤ 40000) := by
    show _ ≤ _
    unfold trE
    rw [trns_len]
    have := (trn0_all s.rules x.rl hr.ok).2
    have := hr.n
    omega
  have HS := Lib.hid hs
  have HBW := Lib.hid hb
  have HM := Lib.hid hM
  have HC := Lib.hid hc
  have HD0 := Lib.hid d0
  have HD1 := Lib.hid d1
  have HLH := Lib.hid hlh
  have HL := Lib.hid hl
  obtain ⟨av, cv, rfl⟩ := own_shape ho
  have HOW := Lib.hid ho
  clear hs hb ho d0 d1 hT hM hr hc hl hlh hW0
  have hmf : ∀ (fn : Fn) (first cap : Array Value) (w : World), (Instr.makeFunc fn first cap).run Tryz.prog w = .ok (.func fn first cap) w := fun _ _ _ _ => rfl
  have s0 : W0.cell? ⟨w.heap.size + 1, 0, none⟩ = some vr := Q0.out.s.cell 0
  have s1 : W0.cell? ⟨w.heap.size + 1, 1, none⟩ = some vz := Q0.out.s.cell 1
  have s2 : W0.cell? ⟨w.heap.size + 1, 2, none⟩ = some vl := Q0.out.s.cell 2
  obtain ⟨e0, e1, e2, e3, e4, e5, e6, e7, e8, e9, e10, e11, -, -, -, -, -, -, -, -, -, -, -, -, -⟩ := Q0.out.e.twelve
  go_enter Tryz.func21, Tryz.ntmps21
  go_upto_region 1 with fail
  rw [← HW.out]
  clear HW
  go_wp2_with fail
  refine (HCH.out _ Q0.out.b).mono ?_; rintro e w1 ⟨vT, rfl, ⟨hT1, hF1⟩, hb1⟩
  have Q1 := Lib.hid (Q0.out.next hb1)
  obtain ⟨aT, cT, rfl, -⟩ := hT1.shape
  obtain ⟨T, hTT⟩ : ∃ T, trE s.rules x = T := ⟨_, rfl⟩
  rw [hTT] at hT1 hF1
  clear s0 s1 s2 e0 e1 e2 e3 e4 e5 e6 e7 e8 e9 e10 e11
  have HG : Hid (∀ g, (Value.slice av l.length cv).ownBlock = some g → D ≤ g ∧ g < w.heap.size) := fun g hg => HOW.out.lt g hg
  obtain ⟨V1, hV1⟩ : ∃ V1, V1 = w1.alloc (.cells #[.slice aT T.length cT] 100) := ⟨_, rfl⟩
  have hz0 : w.heap.size + 1 + 1 < W0.heap.size := Q0.out.e.lt
  have hz1 : W0.heap.size ≤ w1.heap.size := hb1.size
  have A1 : Hid (AdB w0 V1 (w.heap.size + 1) (w.heap.size + 1 + 1) w1.heap.size w.heap.size D vr vz vl (.slice aT T.length cT) (.slice av l.length cv) x T l) := by
    show AdB _ _ _ _ _ _ _ _ _ _ _ _ _ _ _
    rw [hV1]
    refine ⟨Q1.out.s.alloc _, Q1.out.e.alloc _, BxO.new _ _ _, Q1.out.o.alloc _, Q1.out.r.alloc _, hT1.mono ((Below.refl _ _).alloc (Nat.le_refl _) _) fun _ _ h => h, ?_, (HBW.out.trans (Q1.out.b.mono HBW.out.size)).alloc (by have := HBW.out.size; have := Q1.out.b.size; omega) _, HD0.out, by rw [size_alloc]; have := HD1.out; omega, by omega, by omega, by omega, HD1.out⟩
    intro hn b o n c e
    have h1 := hF1 b o n c e
    refine ⟨fun e' => ?_, by omega, ?_⟩
    · have := HG.out b e'
      omega
    · rcases hT1 with ⟨_, _, _, h⟩ | ⟨d, off, cap, hv, -, -, -, hd, -⟩
      · exact absurd h hn
      · rw [e] at hv
        simp only [Value.slice.injEq, Option.some.injEq, Addr.mk.injEq] at hv
        rw [size_alloc]
        omega
  have HB1 : Hid (Below w.heap.size w V1) := by show Below _ _ _; rw [hV1]; exact Q1.out.b.alloc Q1.out.b.size _
  have HV1 := Lib.hid hV1
  clear hV1 hT1 hF1 hb1 Q0 Q1 HCH
  have HAD := Lib.hid (fun wx (h : AdB w0 wx (w.heap.size + 1) (w.heap.size + 1 + 1) w1.heap.size w.heap.size D vr vz vl (.slice aT T.length cT) (.slice av l.length cv) x T l) (hm : MxL wx) => add_any s lo w0 wx _ _ _ _ D vr vz vl _ _ x T l h HS.out (by rw [← hTT]; exact HC.out lo) hm (by have := HL.out; omega))
  go_upto_region 2 with fail
  rw [← HV1.out]
  go_wp2_with fail
  refine (HAD.out _ A1.out (HM.out.below A1.out.b)).mono ?_; rintro e w2 ⟨rfl, vo2, hA2, hK2, hD2⟩
  have A2 := Lib.hid hA2
  have HK2 := Lib.hid hK2
  have HD2 := Lib.hid hD2
  have HMT : Hid (T = trE s.rules x) := hTT.symm
  have HTL : Hid (T.length ≤ 40000) := by show _ ≤ _; rw [← hTT]; exact HTL0.out
  obtain ⟨l1, hl1⟩ : ∃ l1, addQ l lo (clkE x (stL s.rules x T lo)) = l1 := ⟨_, rfl⟩
  rw [hl1] at A2
  have HL1 := Lib.hid hl1
  obtain ⟨av2, cv2, rfl⟩ := own_shape A2.out.r
  clear hA2 hK2 hD2 hTT hl1 HAD HV1
  have e1 : w2.cell? ⟨w.heap.size + 1 + 1, 1, none⟩ = some (.string x.rl) := A2.out.e.cell 1
  have c0 : w2.cell? ⟨w1.heap.size, 0, none⟩ = some (.slice aT T.length cT) := A2.out.c.cell 0
  obtain ⟨pb, hpb⟩ : ∃ pb, (x.rl.toList == []) = pb := ⟨_, rfl⟩
  have HPB := Lib.hid hpb
  obtain ⟨A, hA⟩ : ∃ A, A = if pb = true then [] else (T.map Trn.ins).filter (fun t => decide (lo < t) && decide (t < hi)) := ⟨_, rfl⟩
  have HA := Lib.hid hA
  obtain ⟨ij, hij, hj0, hj1, hj2⟩ := info_parts info_intz
  clear hA
  go_upto_if 27 with fail
  go_cut [13] (fun v13 wx => ∃ (a : Option Addr) (c : Nat), v13 = .slice a A.length c ∧ Hid (wx.ownsRow w2.heap.size 3 1 (.slice a A.length c) A.length (A.flatMap encI)) ∧ Hid (Below w2.heap.size w2 wx))
  case first =>
    cases pb with
    | true =>
      have hA : A = [] := by rw [HA.out]; rfl
      subst hA
      go_wp2_with fail
      go_meet
      exact ⟨none, 0, rfl, World.ownsRow_nil _ _ _ _, Below.refl _ _⟩
    | false =>
      have hA : A = atK lo hi T T.length := by rw [HA.out]; unfold atK; rw [List.take_length]; rfl
      subst hA
      go_wp2_with fail
      go_loopw [13, 30] (fun v i wx => ∃ (k : Nat) (a : Option Addr) (c : Nat), k ≤ T.length ∧ i = .int .i64 k ∧ v = .slice a (atK lo hi T k).length c ∧ Hid (wx.ownsRow w2.heap.size 3 1 (.slice a (atK lo hi T k).length c) (atK lo hi T k).length ((atK lo hi T k).flatMap encI)) ∧ Hid (Below w2.heap.size w2 wx)) (fun _ i _ => (T.length - intOf i).toNat)
      case atStart => exact ⟨0, none, 0, Nat.zero_le _, rfl, rfl, World.ownsRow_nil _ _ _ _, Below.refl _ _⟩
      case round =>
        obtain ⟨k, a, c, hk, rfl, rfl, RK, BK⟩ := hrel
        by_cases hlt : k < T.length
        · have hki : (k : Int) < (T.length : Int) := by omega
          have ht := A2.out.t.mono BK.out fun _ _ h => h
          obtain ⟨bt, ot, rfl, hbt, d0, d1, d2, d3⟩ := elemChg ht k hlt
          have HN := Lib.hid (atK_succ (lo := lo) (hi := hi) hlt)
          obtain ⟨ti, hti⟩ : ∃ ti, T[k].ins = ti := ⟨_, rfl⟩
          rw [hti] at HN d1
          have hLl : (atK lo hi T k).length ≤ T.length := atK_len lo hi T k
          have hTl : T.length ≤ 40000 := HTL.out
          generalize atK lo hi T k = L at *
          generalize T[k].no = n0 at *
          generalize T[k].r.sv = n2 at *
          generalize T[k].r.lt = n3 at *
          obtain ⟨W5, hW5⟩ : ∃ W5, W5 = wr.alloc (.cells #[.int .i64 n0, .int .i64 ti, .int .i64 n2, .string n3] 105) := ⟨_, rfl⟩
          have X5 : Hid (BxO W5 wr.heap.size #[.int .i64 n0, .int .i64 ti, .int .i64 n2, .string n3] 105) := by show BxO _ _ _ _; rw [hW5]; exact BxO.new _ _ _
          have R5 : Hid (W5.ownsRow w2.heap.size 3 1 (.slice a L.length c) L.length (L.flatMap encI)) := by show World.ownsRow _ _ _ _ _ _ _; rw [hW5]; exact RK.out.alloc _
          have B5 : Hid (Below w2.heap.size w2 W5) := by show Below _ _ _; rw [hW5]; exact BK.out.alloc BK.out.size _
          have HW5 := Lib.hid hW5
          clear hW5 hti ht
          go_upto_region 9 with fail
          rw [← HW5.out]
          clear HW5 d0 d1 d2 d3
          have x1 : W5.cell? ⟨wr.heap.size, 1, none⟩ = some (.int .i64 ti) := X5.out.cell 1
          have xz : wr.heap.size < W5.heap.size := X5.out.lt
          by_cases h1 : lo < ti
          · by_cases h2 : ti < hi
            · have HN2 : Hid (atK lo hi T (k + 1) = L ++ [ti]) := HN.out.trans (if_pos ⟨h1, h2⟩)
              clear HN
              go_wp2_with (at_builtin; refine wpList_append_own _ rfl (.tmp 44) (.tmp 47) 66 rfl w2.heap.size 3 ij (.int .i64 0) 1 8 Tryz.underlying66 hij hj0 hj1 hj2 rfl (by decide) _ _ _ rfl (R5.out.alloc _) ⟨W5.heap.size, 0, none⟩ 1 1 (encI ti) rfl rfl (cells_at _ _ _ _ _ rfl rfl) (by intro u hu; simp [encI] at hu; subst hu; rfl) (by unfold maxLen; omega) (by omega) (by rw [size_alloc]; exact Nat.le_succ_of_le B5.out.size) ?_; intro v6 w6 hown hgrow _; have B6 := Lib.hid (append_keep R5.out ((Below.refl _ _).alloc B5.out.size _) B5.out.size hgrow); obtain ⟨a6, c6, rfl⟩ := own_shape hown; have R6 := Lib.hid (own_snocG hown); clear hown hgrow)
              refine ⟨?_, ?measure⟩
              iterate 22 apply Exists.intro
              refine ⟨?rel, rfl⟩
              case rel => exact ⟨k + 1, a6, c6, by omega, by go_num, by rw [HN2.out]; simp, by rw [HN2.out]; show World.ownsRow _ _ _ _ _ _ _; simpa using R6.out, B5.out.trans B6.out⟩
              case measure => simp [intOf]; omega
            · have HN2 : Hid (atK lo hi T (k + 1) = L) := HN.out.trans (if_neg fun h => h2 h.2)
              clear HN
              go_wp2_with fail
              go_roundw
              case rel => exact ⟨k + 1, a, c, by omega, by go_num, by rw [HN2.out], by rw [HN2.out]; exact R5, B5⟩
              case measure => simp [intOf]; omega
          · have HN2 : Hid (atK lo hi T (k + 1) = L) := HN.out.trans (if_neg fun h => h1 h.1)
            clear HN
            go_wp2_with fail
            go_roundw
            case rel => exact ⟨k + 1, a, c, by omega, by go_num, by rw [HN2.out], by rw [HN2.out]; exact R5, B5⟩
            case measure => simp [intOf]; omega
        · obtain rfl : k = T.length := by omega
          have hnl : ¬ (T.length : Int) < (T.length : Int) := by omega
          go_wp2_with fail
          go_meet
          exact ⟨a, c, rfl, RK, BK⟩
  case rest =>
    obtain ⟨a, c, rfl, RA, BA⟩ := hcut
    have A3 := Lib.hid (A2.out.next BA.out)
    have hAl : A.length ≤ 40000 := by
      rw [HA.out]
      split
      · exact Nat.zero_le _
      · refine Nat.le_trans (List.length_filter_le _ _) ?_
        rw [List.length_map]
        exact HTL.out
    have HSO := Lib.hid (sort_own (.slice a A.length c) A w2.heap.size wc RA.out (by omega))
    clear e1 c0
    go_wp2_with fail
    refine HSO.out.mono ?_; rintro e w3 ⟨rfl, hr3, hg3⟩
    have B3 : Hid (Below w2.heap.size w2 w3) := BA.out.trans ((Below.refl _ _).grown hg3 BA.out.size fun g hg => (RA.out.lt g hg).1)
    have R3 := Lib.hid hr3
    have hsl : (srt A).length = A.length := srt_len A
    have HCO := Lib.hid (compact_own (.slice a A.length c) (srt A) w2.heap.size w3 (by rw [hsl]; rw [hsl] at hr3; exact hr3))
    clear hr3 hg3 HSO
    go_wp2_with fail
    refine HCO.out.mono ?_; rintro e w4 ⟨v4, rfl, hr4, hg4, hb4⟩
    have B4 : Hid (Below w2.heap.size w2 w4) := B3.out.trans ((Below.refl _ _).grown hg4 B3.out.size fun g hg => (R3.out.lt g hg).1)
    have A4 := Lib.hid (A2.out.next B4.out)
    obtain ⟨P, hP⟩ : ∃ P, P = Lib.compact (srt A) := ⟨_, rfl⟩
    rw [← hP] at hr4
    have HP := Lib.hid hP
    obtain ⟨a4, c4, rfl⟩ := own_shape hr4
    have R4 := Lib.hid hr4
    clear hr4 hg4 hb4 HCO hP A3 RA BA R3 B3
    have HHD : Hid (∀ k (h : k < P.length), (P.take (k + 1)).foldl (addP fun t => clkE x (stL s.rules x T t)) l1 = addQ ((P.take k).foldl (addP fun t => clkE x (stL s.rules x T t)) l1) P[k] (clkE x (stL s.rules x T P[k]))) := fun k h => by
      rw [List.take_succ_eq_append_getElem h, List.foldl_append]
      rfl
    have hPl : P.length ≤ 40000 := by
      rw [HP.out]
      have := srtC_len A
      unfold srtC at this
      omega
    have HPL := Lib.hid hPl
    have HLL : Hid (∀ k, k ≤ P.length → ((P.take k).foldl (addP fun t => clkE x (stL s.rules x T t)) l1).length ≤ 900001 + k) := fun k h => by
      have h1 : l1.length ≤ 900001 := by
        have := addQ_len l lo (clkE x (stL s.rules x T lo))
        rw [HL1.out] at this
        have := HL.out
        omega
      have h2 := foldP_len (fun t => clkE x (stL s.rules x T t)) (P.take k) l1
      rw [List.length_take] at h2
      omega
    have HFI : Hid (spnI s.rules x lo hi l = (P.take P.length).foldl (addP fun t => clkE x (stL s.rules x T t)) l1) := by
      show _ = _
      rw [spnI_fold HLH.out, List.take_length, List.foldl_cons, HP.out, ← HL1.out, HMT.out]
      have e : chgI s.rules x lo hi = srtC A := by
        unfold chgI
        rw [HA.out, ← HPB.out, HMT.out]
        congr 1
        by_cases h : x.rl = ByteArray.empty
        · have r1 : x.rl.toList = [] := by rw [h]; exact (toList_nil_iff_emptyBytes _).2 rfl
          rw [if_pos h, r1]
          rfl
        · have r1 := (rl_ne h).1
          rw [if_neg h, if_neg (by simpa using fun e => h ((toList_nil_iff_emptyBytes _).1 e))]
      rw [e]
      rfl
    have HKO : Hid (∀ wx, KpS w.heap.size w4 wx → Below D w4 wx → wx.ownsRow w2.heap.size 3 1 (.slice a4 P.length c4) P.length (P.flatMap encJ)) := fun wx h _ => h.own R4.out (by decide) (fun e => by
      have h1 := (R4.out.lt _ e).1
      have h2 := A2.out.o.lt
      omega)
    clear hPl HPB HLH
    go_wp2_with fail
    go_loopw [17, 55] (fun u i wr => ∃ (k : Nat) (vo' : Value), k ≤ P.length ∧ i = .int .i64 k ∧ Hid (AdB w0 wr (w.heap.size + 1) (w.heap.size + 1 + 1) w1.heap.size w.heap.size D vr vz vl (.slice aT T.length cT) vo' x T ((P.take k).foldl (addP fun t => clkE x (stL s.rules x T t)) l1)) ∧ Hid (KpS w.heap.size w4 wr) ∧ Hid (Below D w4 wr)) (fun _ i _ => (P.length - intOf i).toNat)
    case atStart => exact ⟨0, _, Nat.zero_le _, rfl, A4, KpS.refl _ _, Below.refl _ _⟩
    case round =>
      obtain ⟨k, vo', hk, rfl, AK, KK, DK⟩ := hrel
      by_cases hlt : k < P.length
      · have hki : (k : Int) < (P.length : Int) := by omega
        obtain ⟨bp, rfl, hbp, cp⟩ := ent_of_own (HKO.out _ KK.out DK.out) k hlt
        have HN := Lib.hid (HHD.out k hlt)
        have hll := HLL.out k hk
        have hPl := HPL.out
        generalize P[k] = ti at *
        generalize (P.take k).foldl (addP fun t => clkE x (stL s.rules x T t)) l1 = lk at *
        have HAD := Lib.hid (add_any s ti w0 wr _ _ _ _ D vr vz vl _ _ x T lk AK.out HS.out (by rw [HMT.out]; exact HC.out ti) (HM.out.below AK.out.b) (by omega))
        clear hll hPl
        go_wp2_with fail
        refine HAD.out.mono ?_; rintro e w5 ⟨rfl, vo5, hA5, hK5, hD5⟩
        have A5 := Lib.hid hA5
        have K5 := Lib.hid (KK.out.trans hK5)
        have D5 := Lib.hid (DK.out.trans hD5)
        clear hA5 hK5 hD5 cp HAD
        have hPl := HPL.out
        go_wp2_with fail
        go_roundw
        case rel => exact ⟨k + 1, vo5, by omega, by go_num, by rw [HN.out]; exact A5, K5, D5⟩
        case measure => simp [intOf]; omega
      · obtain rfl : k = P.length := by omega
        have hnl : ¬ (P.length : Int) < (P.length : Int) := by omega
        have o0 : wr.cell? ⟨w.heap.size, 0, none⟩ = some vo' := AK.out.o.cell 0
        go_wp2_with fail
        go_ret
        refine ⟨vo', rfl, by rw [HFI.out]; exact AK.out.r, ?_, ?_⟩
        · intro b cs t hb ht
          have hbO : b ≠ w.heap.size := Nat.ne_of_lt hb.lt
          exact KK.out b cs t ((B4.out.block _ (HK2.out b cs t ((HB1.out.block _ hb.lt).trans hb) ht hbO).lt).trans (HK2.out b cs t ((HB1.out.block _ hb.lt).trans hb) ht hbO)) ht hbO
        · exact (HB1.out.mono HD1.out).trans (HD2.out.trans ((B4.out.mono A2.out.d1).trans DK.out))
end Go.Proofs.YtcmlcmokjgkciaaGreatDoor

namespace Go.Proofs.YtcmlcmokjgkciaaGreatDoor
set_option linter.unusedVariables false
set_option linter.unusedSimpArgs false
open Go.ChangeShapes Go.WideShapes Go.ChangeAt Go.RowKit Civ

theorem spnI_len (rules : List Rul) (x : Ero) (lo hi : Int) (l : List Spn) : (spnI rules x lo hi l).length ≤ l.length + (1 + (trE rules x).length) := by
  unfold spnI
  refine Nat.le_trans (foldP_len _ _ _) ?_
  unfold ptsI
  split
  · have h1 := srtC_len (if x.rl = ByteArray.empty then [] else ((trE rules x).map Trn.ins).filter fun t => decide (lo < t) && decide (t < hi))
    have h2 : (if x.rl = ByteArray.empty then [] else ((trE rules x).map Trn.ins).filter fun t => decide (lo < t) && decide (t < hi)).length ≤ (trE rules x).length := by
      split
      · simp
      · refine Nat.le_trans (List.length_filter_le _ _) ?_
        rw [List.length_map]
        exact Nat.le_refl _
    rw [List.length_cons]
    unfold chgI
    omega
  · simp
theorem spnK_succ (rules : List Rul) (eras : List Ero) (ends : List Int) (k : Nat) (h : k < eras.length) : spnK rules eras ends (k + 1) = spnI rules eras[k] (lowI ends k) (highI ends k) (spnK rules eras ends k) := by
  have e : eras[k]? = some eras[k] := List.getElem?_eq_getElem h
  show (match eras[k]? with | some x => _ | none => _) = _
  rw [e]
theorem spnK_len (rules : List Rul) (eras : List Ero) (ends : List Int) (h : ∀ x ∈ eras, (trE rules x).length ≤ 40000) : ∀ k, k ≤ eras.length → (spnK rules eras ends k).length ≤ 40001 * k
  | 0, _ => Nat.le_refl _
  | k + 1, hk => by
    have ih := spnK_len rules eras ends h k (by omega)
    have h1 := h (eras[k]'(by omega)) (List.getElem_mem _)
    have h2 := spnI_len rules (eras[k]'(by omega)) (lowI ends k) (highI ends k) (spnK rules eras ends k)
    rw [spnK_succ rules eras ends k (by omega)]
    omega
theorem trE_len {s : Src} {x : Ero} (h : ROk s x) : (trE s.rules x).length ≤ 40000 := by
  unfold trE
  rw [trns_len]
  have := (trn0_all s.rules x.rl h.ok).2
  have := h.n
  omega
theorem spnI_none {rules : List Rul} {x : Ero} {lo hi : Int} (h : ¬ lo < hi) (l : List Spn) : spnI rules x lo hi l = l := by
  unfold spnI ptsI
  rw [if_neg h]
  rfl
/-- what spans of a name are; what is wrong. -/
def spS (s : Src) (n : ByteArray) : List Spn := match s.zones[(folL s 8 n).toNat]? with
  | some z => spnZ s.rules z.eras
  | none => []
def spE (s : Src) (n : ByteArray) : Int := if fndS s n ≠ 0 then fndS s n else if 1000 < (spS s n).length then 1 else 0
def spV (s : Src) (n : ByteArray) : List Spn := if spE s n = 0 then spS s n else []
theorem spE_f {s : Src} {n : ByteArray} (h : fndS s n ≠ 0) : spE s n = fndS s n := by unfold spE; rw [if_pos h]
theorem spE_l {s : Src} {n : ByteArray} (h : fndS s n = 0) (h2 : 1000 < (spS s n).length) : spE s n = 1 := by unfold spE; rw [if_neg (by simp [h]), if_pos h2]
theorem spE_z {s : Src} {n : ByteArray} (h : fndS s n = 0) (h2 : ¬ 1000 < (spS s n).length) : spE s n = 0 := by unfold spE; rw [if_neg (by simp [h]), if_neg h2]
theorem spV_n {s : Src} {n : ByteArray} (h : spE s n ≠ 0) : spV s n = [] := by unfold spV; rw [if_neg h]
theorem spV_z {s : Src} {n : ByteArray} (h : spE s n = 0) : spV s n = spS s n := by unfold spV; rw [if_pos h]
set_option maxHeartbeats 8000000 in
set_option maxRecDepth 100000 in
theorem Spans_any (s : Src) (n : ByteArray) (vr vz vl : Value) (w : World) (hs : SrcAt w vr vz vl s) (hV : Tab w ∧ MxL w) :
    Calls Tryz.prog 11 #[.agg #[vr, vz, vl], .string n] w fun e w' => ∃ v, e = .returned (.tuple #[v, .int .i64 (spE s n)]) ∧ w'.ownsRow w.heap.size 54 4 v (spV s n).length ((spV s n).flatMap encQ) ∧ Below w.heap.size w w' := by
  have C0 := Lib.hid (SrB.new w vr vz vl)
  obtain ⟨W0, hW0⟩ : ∃ W0, W0 = w.alloc (.cells #[vr, vz, vl] 29) := ⟨_, rfl⟩
  rw [← hW0] at C0
  have HW := Lib.hid hW0
  have HS := Lib.hid hs
  have HV := Lib.hid hV
  have HFI := Lib.hid (fun wx (hb : Below w.heap.size w wx) => find_any s n vr vz vl wx (hs.mono hb) ⟨hV.1.below hb, hV.2.below hb⟩)
  clear hs hV hW0
  obtain ⟨E, hE⟩ : ∃ E, E = fndS s n := ⟨_, rfl⟩
  have HE := Lib.hid hE
  rw [← hE] at HFI
  clear hE
  obtain ⟨q0, q1, q2⟩ := C0.out.1
  go_enter Tryz.func11, Tryz.ntmps11
  go_upto_region 1 with fail
  rw [← HW.out]
  clear HW
  go_wp2_with fail
  refine (HFI.out _ C0.out.2.1).mono ?_; rintro e w1 ⟨nm, a, m, c, rfl, hz, hb1⟩
  have C1 := Lib.hid (C0.out.next hb1)
  have HZ := Lib.hid hz
  clear hb1 q0 q1 q2 C0 HFI hz
  by_cases h0 : E = 0
  · subst h0
    obtain ⟨i, hi, hfol, rfl, hx⟩ := HZ.out rfl
    have HGZ := Lib.hid (gdZ_of (by have := HE.out; unfold fndS at this; split at this; · exact absurd this.symm (by assumption)
                                    · rename_i h; simpa using h) i hi)
    have HSP : Hid (spS s n = spnZ s.rules s.zones[i].eras) := by
      show _ = _
      unfold spS
      rw [hfol, Int.toNat_natCast, List.getElem?_eq_getElem hi]
    clear hfol HZ
    generalize s.zones[i] = z at *
    clear hi
    obtain ⟨a', c', he, hlc⟩ := hx.shape
    simp only [Value.slice.injEq] at he
    obtain ⟨rfl, rfl, rfl⟩ := he
    obtain ⟨W2, hW2⟩ : ∃ W2, W2 = w1.alloc (.cells #[.string z.nm, .slice a z.eras.length c] 41) := ⟨_, rfl⟩
    have C2 : Hid (SrB w W2 vr vz vl) := by show SrB _ _ _ _ _; rw [hW2]; exact C1.out.next ((Below.refl _ _).alloc (Nat.le_refl _) _)
    have HW2 := Lib.hid hW2
    have G : Hid (BxO W2 w1.heap.size #[.string z.nm, .slice a z.eras.length c] 41) := by show BxO _ _ _ _; rw [hW2]; exact BxO.new _ _ _
    have HB2 : Hid (Below w1.heap.size w1 W2) := by show Below _ _ _; rw [hW2]; exact (Below.refl _ _).alloc (Nat.le_refl _) _
    have HX2 := Lib.hid (hx.mono HB2.out fun _ _ h => h)
    have HUN := Lib.hid (untils_any s z.nm z.eras vr vz vl (.slice a z.eras.length c) W2 (HS.out.mono C2.out.2.1) (HV.out.1.below C2.out.2.1) HX2.out HGZ.out.n1 HGZ.out.n20 HGZ.out.k)
    have HN20 := Lib.hid HGZ.out.n20
    have HUL := Lib.hid HGZ.out.len
    have HROK : Hid (∀ x ∈ z.eras, ROk s x) := fun x hx => HGZ.out.rok hx
    have HTLE : Hid (∀ k, k ≤ z.eras.length → (spnK s.rules z.eras (untL s.rules z.eras) k).length ≤ 800020) := fun k hk => by
      have h1 := spnK_len s.rules z.eras (untL s.rules z.eras) (fun x hx => trE_len (HROK.out x hx)) k hk
      have h2 := HN20.out
      omega
    obtain ⟨q0, q1, q2⟩ := C2.out.1
    have g0 : W2.cell? ⟨w1.heap.size, 0, none⟩ = some (.string z.nm) := G.out.cell 0
    have g1 : W2.cell? ⟨w1.heap.size, 1, none⟩ = some (.slice a z.eras.length c) := G.out.cell 1
    clear hx hW2
    go_upto_region 2 with fail
    rw [← HW2.out]
    clear HW2 C1
    go_wp2_with (go_at_call 12; refine (winIn _).mono ?_; rintro e w' ⟨rfl, rfl⟩)
    refine HUN.out.mono ?_; rintro e w3 ⟨vn, rfl, hr3, hb3⟩
    have C3 := Lib.hid (C2.out.next hb3)
    have G3 : Hid (BxO w3 w1.heap.size #[.string z.nm, .slice a z.eras.length c] 41) := (hb3.block _ G.out.lt).trans G.out
    have HX3 := Lib.hid (HX2.out.mono hb3 fun _ _ h => h)
    have hml := maxLen_eq _ hlc
    obtain ⟨N, hN⟩ : ∃ N, untL s.rules z.eras = N := ⟨_, rfl⟩
    rw [hN] at hr3 HUL HTLE
    obtain ⟨m, hm⟩ : ∃ m, N.length = m := ⟨_, rfl⟩
    have hNl : N.length + 1 = z.eras.length := HUL.out
    rw [hm] at hr3 hNl
    have R3 := Lib.hid hr3
    obtain ⟨an, cn, rfl⟩ := own_shape hr3
    have HUNN := Lib.hid hN
    have HM := Lib.hid hm
    clear hr3 hb3 q0 q1 q2 g0 g1 HUN C2 G HX2 HB2 hN hm
    have HB3 : Hid (Below w.heap.size w w3) := C3.out.2.1
    have g1 : w3.cell? ⟨w1.heap.size, 1, none⟩ = some (.slice a z.eras.length c) := G3.out.cell 1
    have hn20 : z.eras.length ≤ 20 := HN20.out
    obtain ⟨nn, hn⟩ : ∃ nn, z.eras.length = nn := ⟨_, rfl⟩
    have HNE := Lib.hid hn
    rw [hn] at hn20 hNl g1
    clear hlc hn hml
    go_wp2_with fail
    go_loopw [11, 35] (fun vo i wr => ∃ k : Nat, k ≤ nn ∧ i = .int .i64 k ∧ Hid (wr.ownsRow w3.heap.size 54 4 vo (spnK s.rules z.eras N k).length ((spnK s.rules z.eras N k).flatMap encQ)) ∧ Hid (Below w3.heap.size w3 wr)) (fun _ i _ => (nn - intOf i).toNat)
    case atStart => exact ⟨0, Nat.zero_le _, rfl, World.ownsRow_nil _ _ _ _, Below.refl _ _⟩
    case round =>
      obtain ⟨k, hk, rfl, OK, BK⟩ := hrel
      by_cases hlt : k < nn
      · have hki : (k : Int) < (nn : Int) := by omega
        have hkx : k < z.eras.length := by rw [HNE.out]; exact hlt
        obtain ⟨b, off, rfl, hb, ⟨d0, d1, d2, d3, d4, d5, d6, d7, d8, d9, d10, d11⟩, -⟩ := elemEro (HX3.out.mono BK.out fun _ _ h => h) k hkx
        have hmem : z.eras[k] ∈ z.eras := List.getElem_mem hkx
        have HSN := Lib.hid (spnK_succ s.rules z.eras N k hkx)
        have hln := HTLE.out k (by rw [HNE.out]; exact hk)
        have HRK := Lib.hid (HROK.out _ hmem)
        have HCK := Lib.hid (fun t => HGZ.out.cok hmem t)
        generalize spnK s.rules z.eras N k = l at *
        generalize z.eras[k] = x at *
        obtain ⟨ao, co, rfl⟩ := own_shape OK.out
        obtain ⟨W5, hW5⟩ : ∃ W5, W5 = wr.alloc (.cells #[.int .i64 x.off, .string x.rl, .int .i64 x.sv, .string x.fm, .bool x.en, .int .i64 x.yr, .int .i64 x.un.mo, .int .i64 x.un.k, .int .i64 x.un.a, .int .i64 x.un.n, .int .i64 x.un.t, .int .i64 x.un.c] 38) := ⟨_, rfl⟩
        have X5 : Hid (BxO W5 wr.heap.size #[.int .i64 x.off, .string x.rl, .int .i64 x.sv, .string x.fm, .bool x.en, .int .i64 x.yr, .int .i64 x.un.mo, .int .i64 x.un.k, .int .i64 x.un.a, .int .i64 x.un.n, .int .i64 x.un.t, .int .i64 x.un.c] 38) := by show BxO _ _ _ _; rw [hW5]; exact BxO.new _ _ _
        have O5 : Hid (W5.ownsRow w3.heap.size 54 4 (.slice ao l.length co) l.length (l.flatMap encQ)) := by show World.ownsRow _ _ _ _ _ _ _; rw [hW5]; exact OK.out.alloc _
        have B5 : Hid (Below w3.heap.size w3 W5) := by show Below _ _ _; rw [hW5]; exact BK.out.alloc BK.out.size _
        have HW5 := Lib.hid hW5
        have HBW : Hid (Below w.heap.size w W5) := HB3.out.trans (B5.out.mono HB3.out.size)
        have C5 : Hid (SrB w W5 vr vz vl) := C3.out.next B5.out
        have R5 := Lib.hid (ownsRow_below R3.out B5.out (Nat.le_refl _))
        have HSA := Lib.hid (fun lo hi (h : lo < hi) => spans_any s x lo hi l vr vz vl (.slice ao l.length co) w3.heap.size w W5 HS.out HBW.out O5.out HB3.out.size B5.out.size (HV.out.1.below HBW.out) HV.out.2 HRK.out HCK.out (by omega) h)
        clear hW5 hmem hln
        go_upto_region 10 with fail
        rw [← HW5.out]
        clear HW5 d0 d1 d2 d3 d4 d5 d6 d7 d8 d9 d10 d11
        obtain ⟨e0, e1, e2, e3, e4, e5, e6, e7, e8, e9, e10, e11, -, -, -, -, -, -, -, -, -, -, -, -, -⟩ := X5.out.twelve
        obtain ⟨q0, q1, q2⟩ := C5.out.1
        have hkm0 : k ≤ m := by omega
        by_cases hk0 : k = 0
        · subst hk0
          have HLO : Hid (lowI N 0 = -2208988800) := rfl
          by_cases hkm : 0 < m
          · have hkmi : (0 : Int) < (m : Int) := by omega
            have hkN : 0 < N.length := by rw [HM.out]; exact hkm
            obtain ⟨bn, rfl, hbn, cb⟩ := ent_of_own (show W5.ownsRow _ 3 1 (.slice an N.length cn) N.length (N.flatMap encJ) from by rw [HM.out]; exact R5.out) 0 hkN
            have HHI : Hid (highI N 0 = min (4102444800 : Int) N[0]) := by show _ = _; unfold highI; rw [if_pos hkN, getD_atI hkN]
            generalize N[0] = eB at *
            by_cases hlh : (-2208988800) < (min 4102444800 eB)
            · have hlo : ¬ (min 4102444800 eB) ≤ (-2208988800) := by omega
              have HS2 : Hid (spnK s.rules z.eras N (0 + 1) = spnI s.rules x (-2208988800) (min 4102444800 eB) l) := by show _ = _; rw [HSN.out, HLO.out, HHI.out]
              have HS3 := Lib.hid (HSA.out _ _ hlh)
              clear hlh HSN HLO HHI HSA
              go_wp2_with fail
              refine HS3.out.mono ?_; rintro e w6 ⟨vo6, rfl, ho6, -, hb6⟩
              have O6 := Lib.hid ho6
              have B6 := Lib.hid (B5.out.trans hb6)
              clear ho6 hb6 e0 e1 e2 e3 e4 e5 e6 e7 e8 e9 e10 e11 q0 q1 q2 HS3
              go_wp2_with fail
              go_roundw
              case rel => exact ⟨0 + 1, by omega, by go_num, by rw [HS2.out]; exact O6, B6⟩
              case measure => simp [intOf]; omega
            · have hlo : (min 4102444800 eB) ≤ (-2208988800) := by omega
              have HS2 : Hid (spnK s.rules z.eras N (0 + 1) = l) := by show _ = _; rw [HSN.out, HLO.out, HHI.out, spnI_none hlh]
              clear hlh HSN HLO HHI HSA
              go_wp2_with fail
              go_roundw
              case rel => exact ⟨0 + 1, by omega, by go_num, by rw [HS2.out]; exact O5, B5⟩
              case measure => simp [intOf]; omega
          · have hkmi : ¬ (0 : Int) < (m : Int) := by omega
            have HHI : Hid (highI N 0 = 4102444800) := by show _ = _; unfold highI; rw [if_neg (by rw [HM.out]; exact hkm)]
            by_cases hlh : (-2208988800) < 4102444800
            · have hlo : ¬ 4102444800 ≤ (-2208988800) := by omega
              have HS2 : Hid (spnK s.rules z.eras N (0 + 1) = spnI s.rules x (-2208988800) 4102444800 l) := by show _ = _; rw [HSN.out, HLO.out, HHI.out]
              have HS3 := Lib.hid (HSA.out _ _ hlh)
              clear hlh HSN HLO HHI HSA
              go_wp2_with fail
              refine HS3.out.mono ?_; rintro e w6 ⟨vo6, rfl, ho6, -, hb6⟩
              have O6 := Lib.hid ho6
              have B6 := Lib.hid (B5.out.trans hb6)
              clear ho6 hb6 e0 e1 e2 e3 e4 e5 e6 e7 e8 e9 e10 e11 q0 q1 q2 HS3
              go_wp2_with fail
              go_roundw
              case rel => exact ⟨0 + 1, by omega, by go_num, by rw [HS2.out]; exact O6, B6⟩
              case measure => simp [intOf]; omega
            · have hlo : 4102444800 ≤ (-2208988800) := by omega
              have HS2 : Hid (spnK s.rules z.eras N (0 + 1) = l) := by show _ = _; rw [HSN.out, HLO.out, HHI.out, spnI_none hlh]
              clear hlh HSN HLO HHI HSA
              go_wp2_with fail
              go_roundw
              case rel => exact ⟨0 + 1, by omega, by go_num, by rw [HS2.out]; exact O5, B5⟩
              case measure => simp [intOf]; omega
        · obtain ⟨j, hj⟩ : ∃ j, k = j + 1 := ⟨k - 1, by omega⟩
          have hk1 : (0 : Int) < (k : Int) := by omega
          have hjk : (k : Int) - 1 = (j : Int) := by omega
          have hjm : j < m := by omega
          have hjmi : (j : Int) < (m : Int) := by omega
          have hjN : j < N.length := by rw [HM.out]; exact hjm
          obtain ⟨bn, rfl, hbn, ca⟩ := ent_of_own (show W5.ownsRow _ 3 1 (.slice an N.length cn) N.length (N.flatMap encJ) from by rw [HM.out]; exact R5.out) j hjN
          have HLO : Hid (lowI N k = max (-2208988800 : Int) N[j]) := by show _ = _; unfold lowI; rw [if_neg hk0, show k - 1 = j by omega, getD_atI hjN]
          generalize hA : N[j] = eA at *
          clear hk0 hA
          by_cases hkm : k < m
          · have hkmi : (k : Int) < (m : Int) := by omega
            have hkN : k < N.length := by rw [HM.out]; exact hkm
            obtain ⟨bn', e, hbn', cb⟩ := ent_of_own (show W5.ownsRow _ 3 1 (.slice (some ⟨bn, 0, none⟩) N.length cn) N.length (N.flatMap encJ) from by rw [HM.out]; exact R5.out) k hkN
            simp only [Option.some.injEq, Addr.mk.injEq, and_true] at e
            subst e
            have HHI : Hid (highI N k = min (4102444800 : Int) N[k]) := by show _ = _; unfold highI; rw [if_pos hkN, getD_atI hkN]
            generalize hB : N[k] = eB at *
            clear hB hj
            by_cases hlh : (max (-2208988800) eA) < (min 4102444800 eB)
            · have hlo : ¬ (min 4102444800 eB) ≤ (max (-2208988800) eA) := by omega
              have HS2 : Hid (spnK s.rules z.eras N (k + 1) = spnI s.rules x (max (-2208988800) eA) (min 4102444800 eB) l) := by show _ = _; rw [HSN.out, HLO.out, HHI.out]
              have HS3 := Lib.hid (HSA.out _ _ hlh)
              clear hlh HSN HLO HHI HSA
              go_wp2_with fail
              refine HS3.out.mono ?_; rintro e w6 ⟨vo6, rfl, ho6, -, hb6⟩
              have O6 := Lib.hid ho6
              have B6 := Lib.hid (B5.out.trans hb6)
              clear ho6 hb6 e0 e1 e2 e3 e4 e5 e6 e7 e8 e9 e10 e11 q0 q1 q2 HS3
              go_wp2_with fail
              go_roundw
              case rel => exact ⟨k + 1, by omega, by go_num, by rw [HS2.out]; exact O6, B6⟩
              case measure => simp [intOf]; omega
            · have hlo : (min 4102444800 eB) ≤ (max (-2208988800) eA) := by omega
              have HS2 : Hid (spnK s.rules z.eras N (k + 1) = l) := by show _ = _; rw [HSN.out, HLO.out, HHI.out, spnI_none hlh]
              clear hlh HSN HLO HHI HSA
              go_wp2_with fail
              go_roundw
              case rel => exact ⟨k + 1, by omega, by go_num, by rw [HS2.out]; exact O5, B5⟩
              case measure => simp [intOf]; omega
          · have hkmi : ¬ (k : Int) < (m : Int) := by omega
            have HHI : Hid (highI N k = 4102444800) := by show _ = _; unfold highI; rw [if_neg (by rw [HM.out]; exact hkm)]
            clear hj
            by_cases hlh : (max (-2208988800) eA) < 4102444800
            · have hlo : ¬ 4102444800 ≤ (max (-2208988800) eA) := by omega
              have HS2 : Hid (spnK s.rules z.eras N (k + 1) = spnI s.rules x (max (-2208988800) eA) 4102444800 l) := by show _ = _; rw [HSN.out, HLO.out, HHI.out]
              have HS3 := Lib.hid (HSA.out _ _ hlh)
              clear hlh HSN HLO HHI HSA
              go_wp2_with fail
              refine HS3.out.mono ?_; rintro e w6 ⟨vo6, rfl, ho6, -, hb6⟩
              have O6 := Lib.hid ho6
              have B6 := Lib.hid (B5.out.trans hb6)
              clear ho6 hb6 e0 e1 e2 e3 e4 e5 e6 e7 e8 e9 e10 e11 q0 q1 q2 HS3
              go_wp2_with fail
              go_roundw
              case rel => exact ⟨k + 1, by omega, by go_num, by rw [HS2.out]; exact O6, B6⟩
              case measure => simp [intOf]; omega
            · have hlo : 4102444800 ≤ (max (-2208988800) eA) := by omega
              have HS2 : Hid (spnK s.rules z.eras N (k + 1) = l) := by show _ = _; rw [HSN.out, HLO.out, HHI.out, spnI_none hlh]
              clear hlh HSN HLO HHI HSA
              go_wp2_with fail
              go_roundw
              case rel => exact ⟨k + 1, by omega, by go_num, by rw [HS2.out]; exact O5, B5⟩
              case measure => simp [intOf]; omega
      · obtain rfl : k = nn := by omega
        have hnl : ¬ (k : Int) < (k : Int) := by omega
        have HFI : Hid (spS s n = spnK s.rules z.eras N k) := by show _ = _; rw [HSP.out]; unfold spnZ; rw [HUNN.out, HNE.out]
        have hln := HTLE.out k (by rw [HNE.out]; exact Nat.le_refl _)
        generalize spnK s.rules z.eras N k = l at *
        obtain ⟨ao, co, rfl⟩ := own_shape OK.out
        have HBF : Hid (Below w.heap.size w wr) := HB3.out.trans (BK.out.mono HB3.out.size)
        by_cases hbig : 1000 < l.length
        · have hbi : (1000 : Int) < (l.length : Int) := by omega
          have HD : Hid (spE s n = 1) := by show _ = _; exact spE_l HE.out.symm (by rw [HFI.out]; exact hbig)
          have HK : Hid (spV s n = []) := spV_n (by rw [HD.out]; decide)
          clear hbig
          go_wp2_with fail
          go_ret2
          exact ⟨_, by rw [HD.out]; rfl, by rw [HK.out]; exact World.ownsRow_nil _ _ _ _, HBF.out⟩
        · have hbi : ¬ (1000 : Int) < (l.length : Int) := by omega
          have HD : Hid (spE s n = 0) := by show _ = _; exact spE_z HE.out.symm (by rw [HFI.out]; exact hbig)
          have HK : Hid (spV s n = l) := (spV_z HD.out).trans HFI.out
          clear hbig
          go_wp2_with fail
          go_ret2
          exact ⟨_, by rw [HD.out]; rfl, by rw [HK.out]; exact ownsRow_base HB3.out.size OK.out, HBF.out⟩
  · have hE0 : (E != 0) = true := by rw [bne_iff_ne]; exact h0
    have HD : Hid (spE s n = E) := by show _ = _; rw [spE_f (by rw [← HE.out]; exact h0), HE.out]
    have HK : Hid (spV s n = []) := spV_n (by rw [HD.out]; exact h0)
    clear h0
    go_wp2
    go_ret2
    exact ⟨_, by rw [HD.out]; rfl, by rw [HK.out]; exact World.ownsRow_nil _ _ _ _, C1.out.2.1.alloc (by have := C1.out.2.1.size; omega) _⟩
end Go.Proofs.YtcmlcmokjgkciaaGreatDoor

namespace Go.Proofs.YtcmlcmokjgkciaaGreatDoor
set_option linter.unusedVariables false
set_option linter.unusedSimpArgs false
open Go.ChangeShapes Go.WideShapes Go.ChangeAt Go.RowKit Civ

/-- numbers and texts of a source. -/
def SBd (s : Src) : Prop := (∀ r ∈ s.rules, R64 r) ∧ (∀ z ∈ s.zones, z.nm.size ≤ maxLen ∧ ∀ x ∈ z.eras, E64 x) ∧ ∀ l ∈ s.links, l.of.size ≤ maxLen ∧ l.nm.size ≤ maxLen
theorem slAt_mem {α : Type} {w : World} {sz : Nat} {R R' : List Value → α → Prop} {v : Value} {xs : List α} (h : SlAt w sz R v xs) (hR : ∀ cs, ∀ x ∈ xs, R cs x → R' cs x) : SlAt w sz R' v xs := by
  rcases h with h | ⟨b, off, cap, hv, h0, h1, h2, h3, h4⟩
  · exact .inl h
  · refine .inr ⟨b, off, cap, hv, h0, h1, h2, h3, fun i hi => ?_⟩
    obtain ⟨cs, c1, c2, c3⟩ := h4 i hi
    exact ⟨cs, c1, hR _ _ (List.getElem_mem hi) c2, c3⟩
theorem srcAt_of {w : World} {vr vz vl : Value} {s : Src} (h : SrX w vr vz vl s) (hb : SBd s) : SrcAt w vr vz vl s := by
  obtain ⟨h1, h2, h3⟩ := h
  obtain ⟨b1, b2, b3⟩ := hb
  refine ⟨slAt_mem h1 fun cs x hx e => ⟨e, b1 x hx⟩, slAt_mem h2 fun cs z hz e => ?_, slAt_mem h3 fun cs l hl e => ⟨e, b3 l hl⟩⟩
  obtain ⟨v, e1, e2⟩ := e
  exact ⟨v, e1, slAt_mem e2 fun cs x hx e => ⟨e, (b2 z hz).2 x hx⟩, (b2 z hz).1⟩
def Bd6 (n : Int) : Prop := -1000000 ≤ n ∧ n ≤ 1000000
theorem Bd6.i64 {n : Int} (h : Bd6 n) : I64 n := by
  obtain ⟨h1, h2⟩ := h
  have e1 : IntKind.i64.min = -9223372036854775808 := rfl
  have e2 : IntKind.i64.max = 9223372036854775807 := rfl
  unfold I64
  simp [Lit.wf, e1, e2]
  omega
theorem bd0 : Bd6 0 := ⟨by decide, by decide⟩
theorem dcm_bdd (s : ByteArray) (m : Int) (hm : 0 ≤ m) : 0 ≤ (dcm (bl s) m).1 ∧ (dcm (bl s) m).1 ≤ m := by
  cases hb : dcmBad (bl s) with
  | true => rw [dcm_bad hb]; exact ⟨Int.le_refl _, hm⟩
  | false =>
    by_cases h : m < dval (bl s)
    · rw [dcm_big hb h]; exact ⟨Int.le_refl _, hm⟩
    · rw [dcm_val hb h]
      have := (dcm_ok (l := s.data.toList) (most := m) hb).2.1
      exact ⟨this, by omega⟩
theorem bdK {n : Int} (h : n = 1 ∨ n = 2) : Bd6 n := by rcases h with rfl | rfl <;> exact ⟨by decide, by decide⟩
theorem yrS_bd (s : ByteArray) : Bd6 (yrS s).1 := by
  have h := dcm_bdd s 9999 (by decide)
  show Bd6 (dcm (bl s) 9999).1
  exact ⟨by omega, by omega⟩
theorem dnS_bd (s : ByteArray) : Bd6 (dnS s).1 := by
  have h := dcm_bdd s 31 (by decide)
  show Bd6 (dcm (bl s) 31).1
  exact ⟨by omega, by omega⟩
theorem fidx_up {α : Type} (p : α → Bool) : ∀ l : List α, fidx p l ≤ l.length
  | [] => by show (-1 : Int) ≤ 0; decide
  | x :: l => by
    have ih := fidx_up p l
    show (if p x = true then (0 : Int) else if fidx p l < 0 then -1 else fidx p l + 1) ≤ ((l.length + 1 : Nat) : Int)
    split
    · omega
    · split <;> omega
theorem monS_bd (s : ByteArray) : Bd6 (monS s).1 := by
  unfold monS
  have h : plcS monN s ≤ 12 := fidx_up _ monN
  split
  · exact bd0
  · exact ⟨by show _ ≤ plcS monN s + 1; omega, by show plcS monN s + 1 ≤ _; omega⟩
theorem wdS_bd (s : ByteArray) : Bd6 (wdS s).1 := by
  unfold wdS
  have h : plcS wdN s ≤ 7 := fidx_up _ wdN
  split
  · exact bd0
  · exact ⟨by show _ ≤ plcS wdN s; omega, by show plcS wdN s ≤ _; omega⟩
theorem hrs_bd (s : ByteArray) (m : Int) (h : 0 ≤ m) (h2 : m ≤ 1000000) : Bd6 (hrsS s m).1 := by
  have := hrsS_rng s m h
  exact ⟨by omega, by omega⟩
theorem offS_bd (s : ByteArray) : Bd6 (offS s).1 := by
  unfold offS
  split
  · have := hrsS_rng (dropB s 1) 86400 (by decide)
    exact ⟨by show _ ≤ -(hrsS (dropB s 1) 86400).1; omega, by show -(hrsS (dropB s 1) 86400).1 ≤ _; omega⟩
  · exact hrs_bd s 86400 (by decide) (by decide)
theorem dyC_bd (k : Int) (hk : Bd6 k) (s : ByteArray) (i : Nat) : Bd6 (dyC k s i).1.k ∧ Bd6 (dyC k s i).1.a ∧ Bd6 (dyC k s i).1.n := by
  unfold dyC
  split
  · exact ⟨bd0, bd0, bd0⟩
  · exact ⟨hk, wdS_bd _, dnS_bd _⟩
theorem dyS_bd (s : ByteArray) : Bd6 (dyS s).1.k ∧ Bd6 (dyS s).1.a ∧ Bd6 (dyS s).1.n := by
  unfold dyS
  split
  · exact ⟨bdK (.inr rfl), wdS_bd _, bd0⟩
  · split
    · exact dyC_bd 3 ⟨by decide, by decide⟩ s _
    · split
      · exact dyC_bd 4 ⟨by decide, by decide⟩ s _
      · exact ⟨bdK (.inl rfl), bd0, dnS_bd _⟩
theorem ckC_bd (c : Int) : Bd6 (ckC c) := by
  unfold ckC
  split
  · exact bd0
  · split
    · exact ⟨by decide, by decide⟩
    · split <;> exact ⟨by decide, by decide⟩
theorem tmS_bd (s : ByteArray) : Bd6 (tmS s).1.1 ∧ Bd6 (tmS s).1.2 := by
  unfold tmS
  split
  · split
    · exact ⟨bd0, bd0⟩
    · exact ⟨hrs_bd _ _ (by decide) (by decide), ckC_bd _⟩
  · exact ⟨hrs_bd _ _ (by decide) (by decide), bd0⟩
theorem toS_bd (w : List ByteArray) : Bd6 (toS w).1 := by
  unfold toS
  split
  · exact yrS_bd _
  · split
    · exact ⟨by decide, by decide⟩
    · exact yrS_bd _
theorem wAt_le {w : List ByteArray} {m : Nat} (h : ∀ x ∈ w, x.size ≤ m) (k : Nat) : (wAt w k).size ≤ m := by
  unfold wAt
  rw [List.getD_eq_getElem?_getD]
  cases hx : w[k]? with
  | none => exact Nat.zero_le _
  | some x => exact h x (List.mem_of_getElem? hx)
theorem rulV_bd {w : List ByteArray} (h : ∀ x ∈ w, x.size ≤ maxLen) : R64 (rulV w) := by
  refine ⟨wAt_le h 1, (yrS_bd _).i64, (toS_bd _).i64, ⟨(monS_bd _).i64, (dyS_bd _).1.i64, (dyS_bd _).2.1.i64, (dyS_bd _).2.2.i64, (tmS_bd _).1.i64, (tmS_bd _).2.i64⟩, (offS_bd _).i64, ?_⟩
  show (if wAt w 9 = dashS then ByteArray.empty else wAt w 9).size ≤ maxLen
  split
  · exact Nat.zero_le _
  · exact wAt_le h 9
theorem erUn_bd (w : List ByteArray) : M64 (erUn w) := by
  unfold erUn
  have one : Bd6 1 := ⟨by decide, by decide⟩
  split
  · exact ⟨bd0.i64, bd0.i64, bd0.i64, bd0.i64, bd0.i64, bd0.i64⟩
  · refine ⟨?_, ?_, ?_, ?_, ?_, ?_⟩
    · show I64 (if _ then _ else _); split; exact (monS_bd _).i64; exact one.i64
    · show I64 (if _ then _ else _); split; exact (dyS_bd _).1.i64; exact one.i64
    · show I64 (if _ then _ else _); split; exact (dyS_bd _).2.1.i64; exact bd0.i64
    · show I64 (if _ then _ else _); split; exact (dyS_bd _).2.2.i64; exact one.i64
    · show I64 (if _ then _ else _); split; exact (tmS_bd _).1.i64; exact bd0.i64
    · show I64 (if _ then _ else _); split; exact (tmS_bd _).2.i64; exact bd0.i64
theorem erV_bd {w : List ByteArray} (h : ∀ x ∈ w, x.size ≤ maxLen) : E64 (erV w) := by
  refine ⟨(offS_bd _).i64, ?_, ?_, wAt_le h 2, ?_, erUn_bd w⟩
  · show (erRl w).size ≤ maxLen
    unfold erRl
    split
    · exact Nat.zero_le _
    · split
      · exact Nat.zero_le _
      · exact wAt_le h 1
  · show I64 (erSv w)
    unfold erSv
    split
    · exact bd0.i64
    · split
      · exact (offS_bd _).i64
      · exact bd0.i64
  · show I64 (if w.length = 3 then 0 else (yrS (wAt w 3)).1)
    split
    · exact bd0.i64
    · exact (yrS_bd _).i64
theorem lnV_bd {st : RdS} {w : List ByteArray} (hs : SBd st.s) (h : ∀ x ∈ w, x.size ≤ maxLen) : SBd (lnV st w).s := by
  obtain ⟨b1, b2, b3⟩ := hs
  unfold lnV
  split
  · exact ⟨b1, b2, b3⟩
  · split
    · refine ⟨b1, fun z hz => ?_, b3⟩
      have hz : z ∈ addE st.s.zones (erV w) := hz
      unfold addE at hz
      split at hz
      · rename_i z0 h0
        have hm := List.mem_of_getLast? h0
        rcases List.mem_append.1 hz with hz | hz
        · exact b2 z (List.dropLast_subset _ hz)
        · rw [List.mem_singleton.1 hz]
          refine ⟨(b2 z0 hm).1, fun x hx => ?_⟩
          have hx : x ∈ z0.eras ++ [erV w] := hx
          rcases List.mem_append.1 hx with hx | hx
          · exact (b2 z0 hm).2 x hx
          · rw [List.mem_singleton.1 hx]; exact erV_bd h
      · exact b2 z hz
    · split
      · refine ⟨fun r hr => ?_, b2, b3⟩
        rcases List.mem_append.1 hr with hr | hr
        · exact b1 r hr
        · rw [List.mem_singleton.1 hr]; exact rulV_bd h
      · split
        · refine ⟨b1, fun z hz => ?_, b3⟩
          rcases List.mem_append.1 hz with hz | hz
          · exact b2 z hz
          · rw [List.mem_singleton.1 hz]
            refine ⟨wAt_le h 1, fun x hx => ?_⟩
            have hx : x ∈ [erV (w.drop 2)] := hx
            rw [List.mem_singleton.1 hx]
            exact erV_bd fun y hy => h y (List.drop_subset _ _ hy)
        · refine ⟨b1, b2, fun l hl => ?_⟩
          rcases List.mem_append.1 hl with hl | hl
          · exact b3 l hl
          · rw [List.mem_singleton.1 hl]; exact ⟨wAt_le h 1, wAt_le h 2⟩
theorem linsF_bd : ∀ (L : List (List UInt8)) (st : RdS) (i : Nat), SBd st.s → (∀ l ∈ L, l.length ≤ maxLen) → SBd (linsF st i L).1.1.s
  | [], st, i, hs, _ => hs
  | l :: L, st, i, hs, h => by
    show SBd (if linE st l ≠ 0 then ((st, i + 1), linE st l) else linsF (linV st l) (i + 1) L).1.1.s
    split
    · exact hs
    · refine linsF_bd L _ _ (lnV_bd hs fun x hx => Nat.le_trans (wdsS_size l x hx) (h l (by simp))) fun l' hl => h l' (by simp [hl])
theorem src0_bd : SBd src0 := ⟨fun r h => absurd h (by simp [src0]), fun r h => absurd h (by simp [src0]), fun r h => absurd h (by simp [src0])⟩
/-- whatever is read is borne by a machine. -/
theorem srcV_bd (s : ByteArray) (hs : s.size ≤ maxLen) : SBd (srcV s) := by
  unfold srcV
  split
  · exact src0_bd
  · refine linsF_bd _ _ _ src0_bd fun l hl => ?_
    have h1 := splB_size 10 s.data.toList [] l hl
    have h2 : s.data.toList.length = s.size := by simp
    simp only [List.length_nil] at h1
    omega
end Go.Proofs.YtcmlcmokjgkciaaGreatDoor

namespace Go.Proofs.YtcmlcmokjgkciaaGreatDoor
set_option linter.unusedVariables false
set_option linter.unusedSimpArgs false
set_option maxRecDepth 100000
open Go.ChangeShapes Go.WideShapes Go.ChangeAt Go.RowKit Civ

theorem ownS : ownKnob Tryz.prog.godebug = none := by kernel_rfl
theorem laidOutS : laidOutB Tryz.prog = true := by kernel_rfl
theorem laid_at {P : Program} {W : World} : ∀ {l : List (String × DataW Unit)} (i : Nat) {nm : String} {d : DataW Unit}, l[i]? = some (nm, d) → laidMet P l W → laidMet P ((nm, d) :: l.drop (i + 1)) W
  | [], _, _, _, e, _ => by simp at e
  | x :: l, 0, nm, d, e, h => by
    obtain rfl : x = (nm, d) := by simpa using e
    exact h
  | x :: l, i + 1, nm, d, e, h => laid_at i (by simpa using e) h.tail
theorem change_shapedS {H : Type} {enc : TypeId × Value → H} {a : Assume} {C : Checked} {os : Os} {f : FuncId} {fn : Func} {s : ChangeSpec} {conds : List PathCond} {apart fresh handsOn again : Bool} {X : World → Array Value → Prop}
    (hX : ∀ (w w' : World) (args : Array Value), w.heap = w'.heap → X w args → X w' args)
    (own : ownKnob C.prog.godebug = none) (started : os.Started) (noInit : C.prog.inits.idxOf? f = none) (hfn : C.prog.funcs[f]? = some fn)
    (witness : ∃ (w : World) (tape : Tape) (i : Input), w.os = os ∧ (w.forCall tape i).Shaped C.prog ∧ i.vars = [] ∧ Input.okWide C.prog (w.forCall tape i) .any w.heap.size f i ∧
      ((s.pre enc C.prog fn conds apart (w.forCall tape i).memory i.args ∧ X (w.forCall tape i).memory i.args) ∧ sizedMet enc C.prog fn (OpenSpec.ofChange s) apart (w.forCall tape i).memory i.args) ∧ a.holds C.prog (lone (Frame.enter C.prog f i.args .normal) [] (w.forCall tape i)))
    (contract : ∀ (W : World) (base : Nat) (args : Array Value) (ds gs : List (DataW H)) (before : List MemPlace),
      (∀ (j : Nat) t v, fn.params[j]? = some t → args[j]? = some v → Value.okWide C.prog W .any base t v) →
      DataW.Whole enc C.prog fn.params.toList s.vars apart W args.toList ds gs before →
      conds.all (PathCond.test C.prog ⟨fn.params.toList, ds, s.plain.varTypes C.prog, gs⟩) = true →
      W.ShapedOpen C.prog → X W args →
      a.holds C.prog (lone (Frame.enter C.prog f args .normal) [] W) →
      Calls C.prog f args W fun e W' => ∃ v, e = .returned v ∧ s.post enc C.prog fn apart fresh handsOn again W args v W') :
    ReturnsInHanded a C os f .any (fun w args => (s.pre enc C.prog fn conds apart w args ∧ X w args) ∧ sizedMet enc C.prog fn (OpenSpec.ofChange s) apart w args) (s.post enc C.prog fn apart fresh handsOn again) := by
  refine returnsInHanded_of_calls own started noInit witness ?_
  intro w tape i _ hsh _ hok hpre hholds
  obtain ⟨_, _, _, fn', hfn', _, _, _, _, hval⟩ := hok
  have e : fn' = fn := Option.some.inj (hfn'.symm.trans hfn)
  subst e
  obtain ⟨⟨⟨ds, gs, before, hw, hc⟩, hx⟩, hz⟩ := hpre
  have hw' := DataW.Whole.of_heap (w' := w.forCall tape i) (by rfl) hw
  refine (contract (w.forCall tape i) w.heap.size i.args ds gs before hval hw' hc hsh (hX _ _ _ (by rfl) hx) hholds).mono fun e W' ⟨v, he, hp⟩ => ?_
  subst he
  exact ChangeSpec.post_blind hp
theorem tPowS : (Tryz.prog.globals[1]?).map (·.type) = some 148 := by kernel_rfl
theorem cU64S : Tryz.prog.cellsOf 111 = 1 := by kernel_rfl
theorem cPowS : Tryz.prog.cellsOf 148 = 20 := by kernel_rfl
theorem gPowS : Tryz.prog.globalNamed "internal/strconv.uint64pow10" = some 1 := by kernel_rfl
theorem pow_at {W : World} {l : List (String × DataW Unit)} (i : Nat) (e : l[i]? = some ("internal/strconv.uint64pow10", Rows.laid_internal_strconv_uint64pow10)) (h : laidMet Tryz.prog l W) : Lib.TabIs Tryz.prog W "internal/strconv.uint64pow10" .u64 Lib.pow10Tab := by
  have h' := laid_at i e h
  have e : (Rows.laid_internal_strconv_uint64pow10 : DataW Unit) = Lib.tabData .u64 Lib.pow10Tab := by kernel_rfl
  rw [e] at h'
  exact Lib.tabIs_of_head gPowS tPowS Tryz.underlying148 Tryz.underlying111 cU64S cPowS h'
theorem tMonN : (Tryz.prog.globals[2]?).map (·.type) = some 158 := by kernel_rfl
theorem tDayN : (Tryz.prog.globals[4]?).map (·.type) = some 185 := by kernel_rfl
theorem cStrS : Tryz.prog.cellsOf 9 = 1 := by kernel_rfl
theorem cMonN : Tryz.prog.cellsOf 158 = 12 := by kernel_rfl
theorem cDayN : Tryz.prog.cellsOf 185 = 7 := by kernel_rfl
theorem gMonN : Tryz.prog.globalNamed "sundial/source.monthNames" = some 2 := by kernel_rfl
theorem gDayN : Tryz.prog.globalNamed "sundial/source.dayNames" = some 4 := by kernel_rfl
def monNS : List (List UInt8) := [[74, 97, 110], [70, 101, 98], [77, 97, 114], [65, 112, 114], [77, 97, 121], [74, 117, 110], [74, 117, 108], [65, 117, 103], [83, 101, 112], [79, 99, 116], [78, 111, 118], [68, 101, 99]]
def dayNS : List (List UInt8) := [[83, 117, 110], [77, 111, 110], [84, 117, 101], [87, 101, 100], [84, 104, 117], [70, 114, 105], [83, 97, 116]]
theorem blk_cellS {W : World} {g o : Nat} {v : Value} (h : W.cell? ⟨g, o, none⟩ = some v) : g < W.heap.size := by
  rcases Nat.lt_or_ge g W.heap.size with q | q
  · exact q
  · simp [World.cell?, Array.getElem?_eq_none q] at h
theorem srV_at {W : World} {l : List (String × DataW Unit)} (i j : Nat) (e1 : l[i]? = some ("sundial/source.monthNames", Rows.laid_sundial_source_monthNames)) (e2 : l[j]? = some ("sundial/source.dayNames", Rows.laid_sundial_source_dayNames)) (h : laidMet Tryz.prog l W) (hM : MxL W) : SrV W := by
  have h1 : laidMet Tryz.prog (("sundial/source.monthNames", .agg (monNS.map fun z => .lit (.string z))) :: l.drop (i + 1)) W := laid_at i e1 h
  have h2 : laidMet Tryz.prog (("sundial/source.dayNames", .agg (dayNS.map fun z => .lit (.string z))) :: l.drop (j + 1)) W := laid_at j e2 h
  have v1 := strs_of_head gMonN tMonN Tryz.underlying158 Tryz.underlying9 cStrS cMonN h1
  have v2 := strs_of_head gDayN tDayN Tryz.underlying185 Tryz.underlying9 cStrS cDayN h2
  have c1 : ∀ k (hk : k < monN.length), W.cell? ⟨2, k, none⟩ = some (.string monN[k]) := fun k hk => by
    rw [World.var?_cell gMonN v1 k]
    have hk : k < 12 := hk
    match k, hk with
    | 0, _ => rfl
    | 1, _ => rfl
    | 2, _ => rfl
    | 3, _ => rfl
    | 4, _ => rfl
    | 5, _ => rfl
    | 6, _ => rfl
    | 7, _ => rfl
    | 8, _ => rfl
    | 9, _ => rfl
    | 10, _ => rfl
    | 11, _ => rfl
  have c2 : ∀ k (hk : k < wdN.length), W.cell? ⟨4, k, none⟩ = some (.string wdN[k]) := fun k hk => by
    rw [World.var?_cell gDayN v2 k]
    have hk : k < 7 := hk
    match k, hk with
    | 0, _ => rfl
    | 1, _ => rfl
    | 2, _ => rfl
    | 3, _ => rfl
    | 4, _ => rfl
    | 5, _ => rfl
    | 6, _ => rfl
  exact ⟨c1, blk_cellS (c1 0 (by decide)), c2, blk_cellS (c2 0 (by decide)), hM⟩
end Go.Proofs.YtcmlcmokjgkciaaGreatDoor

namespace Go.Proofs.YtcmlcmokjgkciaaGreatDoor
set_option linter.unusedVariables false
set_option linter.unusedSimpArgs false
set_option maxRecDepth 100000
open Go.ChangeShapes Go.WideShapes Go.ChangeAt Go.RowKit Civ

theorem tMonthsS : (Tryz.prog.globals[0]?).map (·.type) = some 109 := by kernel_rfl
theorem cIntS : Tryz.prog.cellsOf 3 = 1 := by kernel_rfl
theorem cMonthsS : Tryz.prog.cellsOf 109 = 13 := by kernel_rfl
theorem gMonthsS : Tryz.prog.globalNamed "sundial/civil.months" = some 0 := by kernel_rfl
def monLS : List Int := [0, 31, 59, 90, 120, 151, 181, 212, 243, 273, 304, 334, 365]
theorem monLS_get : ∀ i : Nat, i < 13 → monLS.getD i 0 = mon i := by decide
theorem tab_at {W : World} {l : List (String × DataW Unit)} (i : Nat) (e : l[i]? = some ("sundial/civil.months", Rows.laid_sundial_civil_months)) (h : laidMet Tryz.prog l W) : Tab W := by
  have h' : laidMet Tryz.prog (("sundial/civil.months", Lib.tabData .i64 monLS) :: l.drop (i + 1)) W := laid_at i e h
  have hT := Lib.tabIs_of_head gMonthsS tMonthsS Tryz.underlying109 Tryz.underlying3 cIntS cMonthsS h'
  have hc : ∀ i : Nat, i < 13 → W.cell? ⟨0, i, none⟩ = some (.int .i64 (mon i)) := fun i hi => by
    rw [← monLS_get i hi]; exact hT.cell gMonthsS i hi
  refine ⟨hc, ?_⟩
  rcases Nat.lt_or_ge 0 W.heap.size with g | g
  · exact g
  · have := hc 0 (by omega)
    simp [World.cell?, Array.getElem?_eq_none g] at this
end Go.Proofs.YtcmlcmokjgkciaaGreatDoor

namespace Go.Proofs.YtcmlcmokjgkciaaGreatDoor
set_option linter.unusedVariables false
set_option linter.unusedSimpArgs false
open Go.ChangeShapes Go.WideShapes Go.ChangeAt Go.RowKit

theorem srt_mem (zs : List Int) (x : Int) : x ∈ srt zs ↔ x ∈ zs := (srt_perm zs).mem_iff
theorem srt_sorted (zs : List Int) : (srt zs).Pairwise (· ≤ ·) := by
  have h := List.pairwise_mergeSort (le := fun x y : Int => decide (x ≤ y)) (fun a b c => by simp; omega) (fun a b => by simp; omega) zs
  exact h.imp fun h => by simpa using h
theorem upTo_facts {d : Array Int} (hs : ∀ i j, i < j → j < d.size → d[i]! ≤ d[j]!) : ∀ m, m ≤ d.size → (Lib.compactUpTo d m).Pairwise (· < ·) ∧ (∀ x, x ∈ Lib.compactUpTo d m ↔ ∃ i, i < m ∧ d[i]! = x)
  | 0, _ => by simp [Lib.compactUpTo]
  | m + 1, hm => by
    obtain ⟨h1, h2⟩ := upTo_facts hs m (by omega)
    rw [Lib.compactUpTo_succ]
    by_cases hk : Lib.keeps d m = true
    · rw [if_pos hk]
      refine ⟨?_, fun x => ?_⟩
      · rw [List.pairwise_append]
        refine ⟨h1, by simp, fun a ha b hb => ?_⟩
        obtain rfl : b = d[m]! := by simpa using hb
        obtain ⟨i, hi, rfl⟩ := (h2 a).1 ha
        have hk' : m = 0 ∨ d[m]! ≠ d[m - 1]! := by simpa [Lib.keeps] using hk
        have hm0 : 0 < m := by omega
        have hne : d[m]! ≠ d[m - 1]! := hk'.resolve_left (by omega)
        have h3 := hs (m - 1) m (by omega) (by omega)
        by_cases e : i = m - 1
        · subst e; omega
        · have := hs i (m - 1) (by omega) (by omega)
          omega
      · rw [List.mem_append, h2]
        constructor
        · rintro (⟨i, hi, rfl⟩ | h)
          · exact ⟨i, by omega, rfl⟩
          · exact ⟨m, by omega, (List.mem_singleton.1 h).symm⟩
        · rintro ⟨i, hi, rfl⟩
          by_cases e : i = m
          · subst e; exact .inr (by simp)
          · exact .inl ⟨i, by omega, rfl⟩
    · rw [if_neg hk, List.append_nil]
      refine ⟨h1, fun x => ?_⟩
      rw [h2]
      have hk' : ¬ (m = 0 ∨ d[m]! ≠ d[m - 1]!) := by simpa [Lib.keeps] using hk
      have hm0 : 0 < m := by omega
      have he : d[m]! = d[m - 1]! := by
        by_cases e : d[m]! = d[m - 1]!
        · exact e
        · exact absurd (Or.inr e) hk'
      constructor
      · rintro ⟨i, hi, rfl⟩
        exact ⟨i, by omega, rfl⟩
      · rintro ⟨i, hi, rfl⟩
        by_cases e : i = m
        · subst e; exact ⟨i - 1, by omega, he.symm⟩
        · exact ⟨i, by omega, rfl⟩
theorem arr_sorted {zs : List Int} (h : zs.Pairwise (· ≤ ·)) : ∀ i j, i < j → j < zs.toArray.size → zs.toArray[i]! ≤ zs.toArray[j]! := by
  intro i j hij hj
  have hj' : j < zs.length := by simpa using hj
  rw [getElem!_pos zs.toArray i (by simp; omega), getElem!_pos zs.toArray j hj]
  simp only [List.getElem_toArray]
  exact List.pairwise_iff_getElem.1 h i j (by omega) hj' hij
theorem srtC_rise (zs : List Int) : (srtC zs).Pairwise (· < ·) := (upTo_facts (arr_sorted (srt_sorted zs)) _ (by simp)).1
theorem srtC_mem (zs : List Int) (x : Int) : x ∈ srtC zs ↔ x ∈ zs := by
  unfold srtC Lib.compact
  rw [(upTo_facts (arr_sorted (srt_sorted zs)) _ (by simp)).2, ← srt_mem]
  constructor
  · rintro ⟨i, hi, rfl⟩
    rw [getElem!_pos (srt zs).toArray i (by simpa using hi)]
    simp
  · intro h
    obtain ⟨i, hi, rfl⟩ := List.mem_iff_getElem.1 h
    exact ⟨i, hi, by rw [getElem!_pos (srt zs).toArray i (by simpa using hi)]; simp⟩
end Go.Proofs.YtcmlcmokjgkciaaGreatDoor
namespace Go.Proofs.YtcmlcmokjgkciaaGreatDoor
set_option linter.unusedVariables false
set_option linter.unusedSimpArgs false
open Go.ChangeShapes Go.WideShapes Go.ChangeAt Go.RowKit

end Go.Proofs.YtcmlcmokjgkciaaGreatDoor
namespace Go.Proofs.YtcmlcmokjgkciaaGreatDoor
set_option linter.unusedVariables false
set_option linter.unusedSimpArgs false
open Go.ChangeShapes Go.WideShapes Go.ChangeAt Go.RowKit

end Go.Proofs.YtcmlcmokjgkciaaGreatDoor
namespace Go.Proofs.YtcmlcmokjgkciaaGreatDoor
set_option linter.unusedVariables false
set_option linter.unusedSimpArgs false
open Go.ChangeShapes Go.WideShapes Go.ChangeAt Go.RowKit

end Go.Proofs.YtcmlcmokjgkciaaGreatDoor
namespace Go.Proofs.YtcmlcmokjgkciaaGreatDoor
set_option linter.unusedVariables false
set_option linter.unusedSimpArgs false
open Go.ChangeShapes Go.WideShapes Go.ChangeAt Go.RowKit

theorem fidx_hit {α : Type} (p : α → Bool) : ∀ (xs : List α), 0 ≤ fidx p xs → ∃ (k : Nat) (h : k < xs.length), fidx p xs = k ∧ p xs[k] = true
  | xs, h => by
    by_cases hn : ∀ i (hi : i < xs.length), p xs[i] = false
    · rw [fidx_none p xs hn] at h; omega
    · obtain ⟨i, hi⟩ := Classical.not_forall.1 hn
      obtain ⟨hi, hp⟩ := Classical.not_forall.1 hi
      have hp : p xs[i] = true := by simpa using hp
      obtain ⟨m, ⟨⟨hm, hpm⟩, hmin⟩, _⟩ := least (p := fun k => ∃ h : k < xs.length, p xs[k] = true) i ⟨hi, hp⟩
      refine ⟨m, hm, fidx_at p xs m hm (fun j hj => ?_) hpm, hpm⟩
      have := hmin j hj
      cases e : p (xs[j]'(by omega)) with
      | false => rfl
      | true => exact absurd ⟨by omega, e⟩ this
end Go.Proofs.YtcmlcmokjgkciaaGreatDoor
namespace Go.Proofs.YtcmlcmokjgkciaaGreatDoor
set_option linter.unusedVariables false
set_option linter.unusedSimpArgs false
open Go.ChangeShapes Go.WideShapes Go.ChangeAt Go.RowKit

end Go.Proofs.YtcmlcmokjgkciaaGreatDoor
namespace Go.Proofs.YtcmlcmokjgkciaaGreatDoor
set_option linter.unusedVariables false
set_option linter.unusedSimpArgs false
open Go.ChangeShapes Go.WideShapes Go.ChangeAt Go.RowKit

end Go.Proofs.YtcmlcmokjgkciaaGreatDoor

namespace Go.Proofs.YtcmlcmokjgkciaaGreatDoor
set_option linter.unusedVariables false
set_option linter.unusedSimpArgs false
open Go.ChangeShapes Go.WideShapes Go.ChangeAt Go.RowKit Civ

theorem addP_nil (C : Int → Clk) (t : Int) : addP C [] t = [⟨t, C t⟩] := rfl
theorem addP_last (C : Int → Clk) (out : List Spn) (t : Int) : ∃ p, (addP C out t).getLast? = some p ∧ p.ck = C t := by
  unfold addP
  split
  · rename_i p h
    split
    · exact ⟨p, h, by assumption⟩
    · exact ⟨⟨t, C t⟩, by simp, rfl⟩
  · exact ⟨⟨t, C t⟩, by simp, rfl⟩
theorem addP_same {C : Int → Clk} {out : List Spn} {t : Int} {p : Spn} (h : out.getLast? = some p) (e : p.ck = C t) : addP C out t = out := by
  unfold addP; rw [h]; simp [e]
theorem addP_congr {C C' : Int → Clk} {t : Int} (h : C t = C' t) (out : List Spn) : addP C out t = addP C' out t := by
  unfold addP; rw [h]
theorem foldP_congr {C C' : Int → Clk} : ∀ (l : List Int) (out : List Spn), (∀ t ∈ l, C t = C' t) → l.foldl (addP C) out = l.foldl (addP C') out
  | [], _, _ => rfl
  | t :: l, out, h => by
    rw [List.foldl_cons, List.foldl_cons, addP_congr (h t (by simp)) out]
    exact foldP_congr l _ fun x hx => h x (List.mem_cons_of_mem _ hx)
theorem foldP_sub (C : Int → Clk) (p : Int → Bool) : ∀ (l : List Int) (u : Int) (out : List Spn),
    (∃ q, out.getLast? = some q ∧ q.ck = C u) → (u :: l).Pairwise (· < ·) →
    (∀ t ∈ l, p t = false → ∀ v, v < t → (∀ x ∈ l, x ≤ v ∨ t ≤ x) → u ≤ v → C v = C t) →
    l.foldl (addP C) out = (l.filter p).foldl (addP C) out
  | [], _, _, _, _, _ => rfl
  | t :: l, u, out, ⟨q, h1, h2⟩, hp, hC => by
    have hp1 := List.pairwise_cons.1 hp
    have hp2 := List.pairwise_cons.1 hp1.2
    have hut : u < t := hp1.1 t (by simp)
    have hC' : ∀ t' ∈ l, p t' = false → ∀ v, v < t' → (∀ x ∈ l, x ≤ v ∨ t' ≤ x) → t ≤ v → C v = C t' := fun t' ht' hpt v hv hx htv =>
      hC t' (List.mem_cons_of_mem _ ht') hpt v hv (fun x hx' => by
        rcases List.mem_cons.1 hx' with rfl | hx'
        · exact .inl htv
        · exact hx x hx') (by omega)
    rcases hpt : p t with _ | _
    · have e : C u = C t := hC t (by simp) hpt u hut (fun x hx => by
        rcases List.mem_cons.1 hx with rfl | hx
        · exact .inr (Int.le_refl _)
        · exact .inr (by have := hp2.1 x hx; omega)) (Int.le_refl _)
      have e1 : addP C out t = out := addP_same h1 (h2.trans e)
      rw [List.foldl_cons, e1, List.filter_cons_of_neg (by simp [hpt])]
      have hp3 : (u :: l).Pairwise (· < ·) := List.pairwise_cons.2 ⟨fun x hx => hp1.1 x (List.mem_cons_of_mem _ hx), hp2.2⟩
      exact foldP_sub C p l t out ⟨q, h1, h2.trans e⟩ hp1.2 hC'
    · rw [List.foldl_cons, List.filter_cons_of_pos hpt, List.foldl_cons]
      exact foldP_sub C p l t _ (addP_last C out t) hp1.2 hC'
/-- rising lists are told by their members. -/
theorem rise_ext : ∀ {l m : List Int}, l.Pairwise (· < ·) → m.Pairwise (· < ·) → (∀ x, x ∈ l ↔ x ∈ m) → l = m
  | [], [], _, _, _ => rfl
  | [], y :: m, _, _, h => by simpa using (h y).2 (by simp)
  | x :: l, [], _, _, h => by simpa using (h x).1 (by simp)
  | x :: l, y :: m, hl, hm, h => by
    have hl1 := List.pairwise_cons.1 hl
    have hm1 := List.pairwise_cons.1 hm
    have e : x = y := by
      rcases List.mem_cons.1 ((h x).1 (by simp)) with e | e
      · exact e
      · rcases List.mem_cons.1 ((h y).2 (by simp)) with e' | e'
        · exact e'.symm
        · have := hm1.1 x e
          have := hl1.1 y e'
          omega
    subst e
    rw [rise_ext hl1.2 hm1.2 fun z => ?_]
    constructor
    · intro hz
      rcases List.mem_cons.1 ((h z).1 (by simp [hz])) with e | e
      · have := hl1.1 z hz; omega
      · exact e
    · intro hz
      rcases List.mem_cons.1 ((h z).2 (by simp [hz])) with e | e
      · have := hm1.1 z hz; omega
      · exact e
/-- the whole: two lists of points that rise from the same first one; what the second one has more tells nothing new. -/
theorem foldP_two (C : Int → Clk) (u : Int) (l m : List Int) (hl : (u :: l).Pairwise (· < ·)) (hm : (u :: m).Pairwise (· < ·)) (hs : ∀ x ∈ l, x ∈ m)
    (hC : ∀ v t, u ≤ v → v < t → t ∈ m → (∀ x ∈ l, x ≤ v ∨ t < x) → C v = C t) : (u :: m).foldl (addP C) [] = (u :: l).foldl (addP C) [] := by
  rw [List.foldl_cons, List.foldl_cons]
  have e : l = m.filter fun x => decide (x ∈ l) := by
    refine rise_ext (List.pairwise_cons.1 hl).2 ((List.pairwise_cons.1 hm).2.filter _) fun x => ?_
    rw [List.mem_filter, decide_eq_true_iff]
    exact ⟨fun h => ⟨hs x h, h⟩, fun h => h.2⟩
  rw [foldP_sub C (fun x => decide (x ∈ l)) m u (addP C [] u) (addP_last C [] u) hm ?_, ← e]
  intro t ht hpt v hv hx huv
  refine hC v t huv hv ht fun x hxl => ?_
  rcases hx x (hs x hxl) with h | h
  · exact .inl h
  · right
    rcases Int.lt_or_eq_of_le h with h | h
    · exact h
    · subst h
      simp [hxl] at hpt
theorem chgI_mem {rules : List Rul} {x : Ero} {lo hi t : Int} : t ∈ chgI rules x lo hi ↔ (x.rl ≠ ByteArray.empty ∧ (∃ c ∈ trE rules x, c.ins = t) ∧ lo < t ∧ t < hi) := by
  unfold chgI
  rw [srtC_mem]
  split
  · rename_i h
    constructor
    · intro h'; cases h'
    · intro h'; exact absurd h h'.1
  · rename_i h
    rw [List.mem_filter, List.mem_map, Bool.and_eq_true, decide_eq_true_iff, decide_eq_true_iff]
    constructor
    · rintro ⟨⟨c, h1, h2⟩, h3, h4⟩
      exact ⟨h, ⟨c, h1, h2⟩, h3, h4⟩
    · rintro ⟨-, ⟨c, h1, h2⟩, h3, h4⟩
      exact ⟨⟨c, h1, h2⟩, h3, h4⟩
theorem ptsI_rise (rules : List Rul) (x : Ero) (lo hi : Int) : (ptsI rules x lo hi).Pairwise (· < ·) := by
  unfold ptsI
  split
  · refine List.pairwise_cons.2 ⟨fun t ht => (chgI_mem.1 ht).2.2.1, srtC_rise _⟩
  · exact List.Pairwise.nil
theorem ptsI_in {rules : List Rul} {x : Ero} {lo hi t : Int} (h : t ∈ ptsI rules x lo hi) : lo ≤ t ∧ t < hi := by
  unfold ptsI at h
  split at h
  · rcases List.mem_cons.1 h with rfl | h
    · exact ⟨Int.le_refl _, by assumption⟩
    · have := chgI_mem.1 h
      omega
  · cases h
/-- all points of the first so many eras. -/
def ptsK (rules : List Rul) (eras : List Ero) (ends : List Int) : Nat → List Int
  | 0 => []
  | k + 1 => match eras[k]? with
    | some x => ptsK rules eras ends k ++ ptsI rules x (lowI ends k) (highI ends k)
    | none => ptsK rules eras ends k
/-- the clock at an instant. -/
def clkT (rules : List Rul) (eras : List Ero) (ends : List Int) (t : Int) : Clk := match eras[eraI ends t]? with
  | some x => clkI rules x t
  | none => ⟨0, false, ByteArray.empty⟩
theorem Rise.lt' {l : List Int} (h : Rise l) {i j : Nat} (hij : i < j) (hj : j < l.length) : l[i]'(by omega) < l[j] := by
  obtain ⟨d, rfl⟩ : ∃ d, j = i + d + 1 := ⟨j - i - 1, by omega⟩
  exact h.lt d i hj
theorem eraI_le (ends : List Int) (t : Int) : eraI ends t ≤ ends.length := by
  unfold eraI
  exact (List.takeWhile_prefix _).length_le
theorem eraI_cons (e : Int) (l : List Int) (t : Int) : eraI (e :: l) t = if e ≤ t then eraI l t + 1 else 0 := by
  unfold eraI
  rw [List.takeWhile_cons]
  by_cases h : e ≤ t <;> simp [h]
theorem eraI_lt : ∀ (ends : List Int) (t : Int) (j : Nat) (hj : j < ends.length), j < eraI ends t → ends[j] ≤ t
  | [], _, _, hj, _ => by simp at hj
  | e :: l, t, j, hj, h => by
    rw [eraI_cons] at h
    split at h
    · rcases j with _ | j
      · assumption
      · exact eraI_lt l t j (by simpa using hj) (by omega)
    · omega
theorem eraI_ge : ∀ (ends : List Int) (t : Int) (h : eraI ends t < ends.length), t < ends[eraI ends t]
  | [], _, h => by simp at h
  | e :: l, t, h => by
    by_cases he : e ≤ t
    · have h1 : eraI (e :: l) t = eraI l t + 1 := by rw [eraI_cons, if_pos he]
      have h2 := eraI_ge l t (by rw [h1] at h; simpa using h)
      simp only [h1, List.getElem_cons_succ]
      exact h2
    · have h1 : eraI (e :: l) t = 0 := by rw [eraI_cons, if_neg he]
      simp only [h1, List.getElem_cons_zero]
      omega
/-- between its bounds it is this era. -/
theorem eraI_at {ends : List Int} (hr : Rise ends) {t : Int} {i : Nat} (hi : i ≤ ends.length) (h1 : lowI ends i ≤ t) (h2 : t < highI ends i) : eraI ends t = i := by
  have hle := eraI_le ends t
  unfold lowI at h1
  unfold highI at h2
  rcases Nat.lt_trichotomy (eraI ends t) i with h | h | h
  · have h3 := eraI_ge ends t (by omega)
    have hi0 : ¬ i = 0 := by omega
    rw [if_neg hi0, getD_atI (by omega)] at h1
    by_cases e : eraI ends t = i - 1
    · simp only [e] at h3
      omega
    · have := hr.lt' (i := eraI ends t) (j := i - 1) (by omega) (by omega)
      omega
  · exact h
  · have h3 := eraI_lt ends t i (by omega) h
    rw [if_pos (by omega), getD_atI (by omega)] at h2
    omega
theorem eraI_low {ends : List Int} {t : Int} (h0 : -2208988800 ≤ t) : lowI ends (eraI ends t) ≤ t := by
  unfold lowI
  split
  · exact h0
  · have hle := eraI_le ends t
    rw [getD_atI (by omega)]
    have := eraI_lt ends t (eraI ends t - 1) (by omega) (by omega)
    omega
theorem eraI_high {ends : List Int} {t : Int} (h0 : t < 4102444800) : t < highI ends (eraI ends t) := by
  unfold highI
  split
  · rename_i h
    rw [getD_atI h]
    have := eraI_ge ends t h
    omega
  · exact h0
theorem highI_low {ends : List Int} (hr : Rise ends) {i j : Nat} (hij : i < j) (hj : j ≤ ends.length) : highI ends i ≤ lowI ends j := by
  unfold highI lowI
  rw [if_pos (by omega), if_neg (by omega), getD_atI (by omega), getD_atI (by omega)]
  by_cases e : i = j - 1
  · subst e; omega
  · have := hr.lt' (i := i) (j := j - 1) (by omega) (by omega)
    omega
theorem ptsK_mem {rules : List Rul} {eras : List Ero} {ends : List Int} {t : Int} : ∀ {k : Nat}, k ≤ eras.length → (t ∈ ptsK rules eras ends k ↔ ∃ i, ∃ h : i < eras.length, i < k ∧ t ∈ ptsI rules eras[i] (lowI ends i) (highI ends i))
  | 0, _ => by
    constructor
    · intro h; cases h
    · rintro ⟨i, h, h', -⟩; omega
  | k + 1, hk => by
    have e : eras[k]? = some (eras[k]'(by omega)) := List.getElem?_eq_getElem (by omega)
    unfold ptsK
    rw [e]
    dsimp only
    rw [List.mem_append, ptsK_mem (k := k) (by omega)]
    constructor
    · rintro (⟨i, h, h1, h2⟩ | h2)
      · exact ⟨i, h, by omega, h2⟩
      · exact ⟨k, by omega, by omega, h2⟩
    · rintro ⟨i, h, h1, h2⟩
      by_cases e : i = k
      · subst e; exact .inr h2
      · exact .inl ⟨i, h, by omega, h2⟩
theorem ptsK_rise {rules : List Rul} {eras : List Ero} {ends : List Int} (hr : Rise ends) (hl : ends.length + 1 = eras.length) : ∀ k, k ≤ eras.length → (ptsK rules eras ends k).Pairwise (· < ·)
  | 0, _ => List.Pairwise.nil
  | k + 1, hk => by
    have e : eras[k]? = some (eras[k]'(by omega)) := List.getElem?_eq_getElem (by omega)
    unfold ptsK
    rw [e]
    dsimp only
    refine List.pairwise_append.2 ⟨ptsK_rise hr hl k (by omega), ptsI_rise _ _ _ _, fun a ha b hb => ?_⟩
    obtain ⟨i, hi, hik, ha⟩ := (ptsK_mem (by omega)).1 ha
    have h1 := ptsI_in ha
    have h2 := ptsI_in hb
    have h3 := highI_low hr hik (by omega)
    omega
theorem spnK_pts {rules : List Rul} {eras : List Ero} {ends : List Int} (hr : Rise ends) (hl : ends.length + 1 = eras.length) : ∀ k, k ≤ eras.length → spnK rules eras ends k = (ptsK rules eras ends k).foldl (addP (clkT rules eras ends)) []
  | 0, _ => rfl
  | k + 1, hk => by
    have e : eras[k]? = some (eras[k]'(by omega)) := List.getElem?_eq_getElem (by omega)
    unfold spnK ptsK
    rw [e]
    dsimp only
    rw [List.foldl_append, ← spnK_pts hr hl k (by omega)]
    unfold spnI
    refine foldP_congr _ _ fun t ht => ?_
    have h1 := ptsI_in ht
    have h2 := eraI_at hr (by omega) h1.1 h1.2
    unfold clkT
    rw [h2, e]
/-- the points of the document: the window's beginning, ends, all turns. -/
def ptsA (rules : List Rul) (eras : List Ero) (ends : List Int) : List Int := -2208988800 :: (ends ++ eras.flatMap fun x => (trE rules x).map Trn.ins)
def winP (t : Int) : Bool := decide (-2208988800 ≤ t) && decide (t < 4102444800)
/-- the document's spans. -/
def spnR (rules : List Rul) (eras : List Ero) (ends : List Int) : List Spn := ((srtC (ptsA rules eras ends)).filter winP).foldl (addP (clkT rules eras ends)) []
theorem find_congr {α : Type} {p q : α → Bool} : ∀ {l : List α}, (∀ x ∈ l, p x = q x) → l.find? p = l.find? q
  | [], _ => rfl
  | x :: l, h => by
    rw [List.find?_cons, List.find?_cons, h x (by simp), find_congr (l := l) fun y hy => h y (List.mem_cons_of_mem _ hy)]
theorem stL_same {rules : List Rul} {x : Ero} {T : List Trn} {v t : Int} (hvt : v < t) (h : x.rl ≠ ByteArray.empty → ∀ c ∈ T, c.ins ≤ v ∨ t < c.ins) : stL rules x T v = stL rules x T t := by
  unfold stL
  split
  · rfl
  · rename_i hx
    have e : lastT T v = lastT T t := by
      unfold lastT
      refine find_congr fun c hc => ?_
      have := h hx c (List.mem_reverse.1 hc)
      rw [decide_eq_decide]
      omega
    rw [e]
theorem head_of_rise {u : Int} {l : List Int} (hl : l.Pairwise (· < ·)) (hu : u ∈ l) (hle : ∀ x ∈ l, u ≤ x) : ∃ m, l = u :: m := by
  cases l with
  | nil => cases hu
  | cons y m =>
    rcases List.mem_cons.1 hu with rfl | h
    · exact ⟨m, rfl⟩
    · have h1 := (List.pairwise_cons.1 hl).1 u h
      have h2 := hle y (by simp)
      omega
/-- both tell the same. -/
theorem spnR_eq {rules : List Rul} {eras : List Ero} {ends : List Int} (hr : Rise ends) (hl : ends.length + 1 = eras.length) : spnR rules eras ends = spnK rules eras ends eras.length := by
  rw [spnK_pts hr hl _ (Nat.le_refl _)]
  unfold spnR
  have hP := ptsK_rise (rules := rules) hr hl eras.length (Nat.le_refl _)
  have hA : ((srtC (ptsA rules eras ends)).filter winP).Pairwise (· < ·) := (srtC_rise _).filter _
  have hAm : ∀ t, t ∈ (srtC (ptsA rules eras ends)).filter winP ↔ t ∈ ptsA rules eras ends ∧ -2208988800 ≤ t ∧ t < 4102444800 := fun t => by
    rw [List.mem_filter, srtC_mem, winP, Bool.and_eq_true, decide_eq_true_iff, decide_eq_true_iff]
  have hPm : ∀ t, t ∈ ptsK rules eras ends eras.length ↔ ∃ i, ∃ h : i < eras.length, t ∈ ptsI rules eras[i] (lowI ends i) (highI ends i) := fun t => by
    rw [ptsK_mem (Nat.le_refl _)]
    exact ⟨fun ⟨i, h, _, h2⟩ => ⟨i, h, h2⟩, fun ⟨i, h, h2⟩ => ⟨i, h, h, h2⟩⟩
  -- the window's beginning is a point of both
  have hw0 : (-2208988800 : Int) ∈ ptsK rules eras ends eras.length := by
    refine (hPm _).2 ⟨eraI ends (-2208988800), by have := eraI_le ends (-2208988800); omega, ?_⟩
    have h1 := eraI_low (ends := ends) (t := -2208988800) (by omega)
    have h2 := eraI_high (ends := ends) (t := -2208988800) (by omega)
    have h3 : -2208988800 ≤ lowI ends (eraI ends (-2208988800)) := by unfold lowI; split <;> omega
    have h4 : lowI ends (eraI ends (-2208988800)) = -2208988800 := by omega
    unfold ptsI
    rw [if_pos (by omega), h4]
    simp
  have hwin : ∀ t ∈ ptsK rules eras ends eras.length, -2208988800 ≤ t ∧ t < 4102444800 := fun t ht => by
    obtain ⟨i, hi, h⟩ := (hPm t).1 ht
    have h1 := ptsI_in h
    have h3 : -2208988800 ≤ lowI ends i := by unfold lowI; split <;> omega
    have h4 : highI ends i ≤ 4102444800 := by unfold highI; split <;> omega
    omega
  have hsub : ∀ t ∈ ptsK rules eras ends eras.length, t ∈ (srtC (ptsA rules eras ends)).filter winP := fun t ht => by
    have hb := hwin t ht
    refine (hAm t).2 ⟨?_, hb⟩
    obtain ⟨i, hi, h⟩ := (hPm t).1 ht
    unfold ptsA
    rw [List.mem_cons, List.mem_append]
    unfold ptsI at h
    split at h
    · rcases List.mem_cons.1 h with e | h
      · unfold lowI at e
        split at e
        · exact .inl e
        · rw [getD_atI (by omega)] at e
          by_cases h5 : ends[i - 1]'(by omega) ≤ -2208988800
          · exact .inl (by omega)
          · exact .inr (.inl (List.mem_iff_getElem.2 ⟨i - 1, by omega, by omega⟩))
      · obtain ⟨-, ⟨c, hc, e⟩, -⟩ := chgI_mem.1 h
        exact .inr (.inr (List.mem_flatMap.2 ⟨eras[i], List.getElem_mem hi, List.mem_map.2 ⟨c, hc, e⟩⟩))
    · cases h
  obtain ⟨l, el⟩ := head_of_rise hP hw0 fun x hx => (hwin x hx).1
  obtain ⟨m, em⟩ := head_of_rise hA (hsub _ hw0) fun x hx => ((hAm x).1 hx).2.1
  rw [el] at hP hsub
  rw [em] at hA hsub
  rw [el, em]
  refine foldP_two _ _ l m hP hA (fun x hx => ?_) ?_
  · rcases List.mem_cons.1 (hsub x (List.mem_cons_of_mem _ hx)) with e | e
    · have := (List.pairwise_cons.1 hP).1 x hx; omega
    · exact e
  · intro v t huv hvt htm hno
    have htA := (hAm t).1 (by rw [em]; exact List.mem_cons_of_mem _ htm)
    -- no point of ours lies in (v, t]
    have hno' : ∀ x, x ∈ ptsK rules eras ends eras.length → x ≤ v ∨ t < x := fun x hx => by
      rw [el] at hx
      rcases List.mem_cons.1 hx with rfl | hx
      · exact .inl huv
      · exact hno x hx
    -- one era
    have hev := eraI_le ends v
    have het := eraI_le ends t
    have elow := eraI_low (ends := ends) (t := t) (by omega)
    have ehigh := eraI_high (ends := ends) (t := t) (by omega)
    have hpt : lowI ends (eraI ends t) ∈ ptsK rules eras ends eras.length := by
      refine (hPm _).2 ⟨eraI ends t, by omega, ?_⟩
      unfold ptsI
      rw [if_pos (by omega)]
      simp
    have hlv : lowI ends (eraI ends t) ≤ v := by
      rcases hno' _ hpt with h | h
      · exact h
      · omega
    have he : eraI ends v = eraI ends t := eraI_at hr het hlv (by omega)
    unfold clkT
    rw [he]
    have hx : eras[eraI ends t]? = some (eras[eraI ends t]'(by omega)) := List.getElem?_eq_getElem (by omega)
    rw [hx]
    dsimp only
    unfold clkI
    rw [stL_same hvt]
    intro hrl c hc
    by_cases h1 : c.ins ≤ v
    · exact .inl h1
    · by_cases h2 : t < c.ins
      · exact .inr h2
      · exfalso
        have hpc : c.ins ∈ ptsK rules eras ends eras.length := by
          refine (hPm _).2 ⟨eraI ends t, by omega, ?_⟩
          unfold ptsI
          rw [if_pos (by omega)]
          refine List.mem_cons_of_mem _ (chgI_mem.2 ⟨hrl, ⟨c, hc, rfl⟩, by omega, by omega⟩)
        rcases hno' _ hpc with h | h <;> omega
end Go.Proofs.YtcmlcmokjgkciaaGreatDoor

namespace Go.Proofs.YtcmlcmokjgkciaaGreatDoor
set_option linter.unusedVariables false
set_option linter.unusedSimpArgs false
open Go.ChangeShapes Go.WideShapes Go.ChangeAt Go.RowKit Civ

/-- a row that bears what another block does not, where that other block alone is changed. -/
theorem SlAt.aside {α : Type} {w w' : World} {sz b j : Nat} {R : List Value → α → Prop} {v : Value} {xs : List α} (h : SlAt w sz R v xs) (p : Value → Prop) (hj : j < sz) (hR : ∀ cs x, R cs x → ∃ c, cs[j]? = some c ∧ p c)
    (hb : ∀ i u, w.cell? ⟨b, i, none⟩ = some u → ¬ p u) (hw : ∀ c, c < w.heap.size → c ≠ b → w'.heap[c]? = w.heap[c]?) (hs : w.heap.size ≤ w'.heap.size) : SlAt w' sz R v xs := by
  rcases h with h | ⟨d, off, cap, hv, p0, p1, p2, p3, p4⟩
  · exact .inl h
  · have hne : d ≠ b := fun e => by
      subst e
      obtain ⟨cs, _, q1, q2⟩ := p4 0 p0
      obtain ⟨c, q3, q4⟩ := hR _ _ q1
      exact hb _ c ((q2 j hj).trans q3) q4
    refine .inr ⟨d, off, cap, hv, p0, p1, p2, Nat.lt_of_lt_of_le p3 hs, fun i hi => ?_⟩
    obtain ⟨cs, q0, q1, q2⟩ := p4 i hi
    exact ⟨cs, q0, q1, fun j hj => by rw [World.cell?_of_block (a := ⟨d, _, none⟩) (hw d p3 hne)]; exact q2 j hj⟩
end Go.Proofs.YtcmlcmokjgkciaaGreatDoor

namespace Go.Proofs.YtcmlcmokjgkciaaGreatDoor
set_option linter.unusedVariables false
set_option linter.unusedSimpArgs false
open Go.ChangeShapes Go.WideShapes Go.ChangeAt Go.RowKit Civ

theorem fidx_hd {α : Type} {p : α → Bool} {x : α} {xs : List α} (h : p x = true) : fidx p (x :: xs) = 0 := if_pos h
theorem folL_hit {s : Src} {k : Nat} {n : ByteArray} (h : 0 ≤ zIdx s n) : folL s (k + 1) n = zIdx s n := if_pos h
theorem bx_eqt (a : Wd) : decide (bx a = bx a) = true := by simp
theorem zIdx_one (xs : List Rz) : zIdx (srcO xs) (bx oneWd) = 0 := fidx_hd (bx_eqt oneWd)
theorem fol_one (xs : List Rz) (k : Nat) : folL (srcO xs) k (bx oneWd) = 0 := by
  cases k with
  | zero => exact zIdx_one xs
  | succ k => rw [folL_hit (by rw [zIdx_one]; exact Int.le_refl _), zIdx_one]
end Go.Proofs.YtcmlcmokjgkciaaGreatDoor

namespace Go.Proofs.YtcmlcmokjgkciaaGreatDoor
set_option linter.unusedVariables false
set_option linter.unusedSimpArgs false
open Go.ChangeShapes Go.WideShapes Go.ChangeAt Go.RowKit Civ

def strV (u : Value) : Prop := ∃ s, u = .string s
/-- a source is as it was where a block that holds no text is written. -/
theorem srcAt_aside {w w' : World} {b : Nat} {vr vz vl : Value} {s : Src} (h : SrcAt w vr vz vl s) (hb : ∀ i u, w.cell? ⟨b, i, none⟩ = some u → ¬ strV u)
    (hw : ∀ c, c < w.heap.size → c ≠ b → w'.heap[c]? = w.heap[c]?) (hs : w.heap.size ≤ w'.heap.size) : SrcAt w' vr vz vl s := by
  obtain ⟨h1, h2, h3⟩ := h
  have h2' := h2.aside strV (j := 0) (b := b) (by decide) (fun cs z hz => by obtain ⟨v, rfl, -, -⟩ := hz; exact ⟨_, rfl, _, rfl⟩) hb hw hs
  refine ⟨h1.aside strV (j := 0) (b := b) (by decide) (fun cs r hr => by rw [hr.1]; exact ⟨_, rfl, _, rfl⟩) hb hw hs, slAt_mem h2' fun cs z hz hr => ?_, h3.aside strV (j := 0) (b := b) (by decide) (fun cs r hr => by rw [hr.1]; exact ⟨_, rfl, _, rfl⟩) hb hw hs⟩
  obtain ⟨v, e1, e2, e3⟩ := hr
  exact ⟨v, e1, e2.aside strV (j := 1) (b := b) (by decide) (fun cs r hr => by rw [hr.1]; exact ⟨_, rfl, _, rfl⟩) hb hw hs, e3⟩
/-- the result's cells, the box that is loaded. -/
structure RdB (w wx : World) (B : Nat) (vr vz vl : Value) (s : Src) : Prop where
  b : Below w.heap.size w wx
  d : BxO wx w.heap.size #[.slice none 0 0, .slice none 0 0, .slice none 0 0] 29
  x : BxO wx B #[vr, vz, vl] 29
  s : SrcAt wx vr vz vl s
theorem RdB.next {w wx w' : World} {B : Nat} {vr vz vl : Value} {s : Src} (h : RdB w wx B vr vz vl s) (hb : Below wx.heap.size wx w') : RdB w w' B vr vz vl s :=
  ⟨h.b.trans (hb.mono h.b.size), (hb.block _ h.d.lt).trans h.d, (hb.block _ h.x.lt).trans h.x, h.s.mono hb⟩
theorem RdB.done {w wx : World} {B : Nat} {vr vz vl : Value} {s : Src} (h : RdB w wx B vr vz vl s) (a b c : Value) : SrcAt (((wx.setCell ⟨w.heap.size, 0, none⟩ a).setCell ⟨w.heap.size, 1, none⟩ b).setCell ⟨w.heap.size, 2, none⟩ c) vr vz vl s ∧ Below w.heap.size w (((wx.setCell ⟨w.heap.size, 0, none⟩ a).setCell ⟨w.heap.size, 1, none⟩ b).setCell ⟨w.heap.size, 2, none⟩ c) := by
  refine ⟨srcAt_aside h.s (b := w.heap.size) (fun i u hu => ?_) (fun k _ hk => ?_) (by simp [World.size_setCell]), ((h.b.setCell (Nat.le_refl _) _).setCell (Nat.le_refl _) _).setCell (Nat.le_refl _) _⟩
  · rw [h.d.cell i] at hu
    rintro ⟨t, rfl⟩
    match i, hu with
    | 0, hu => simp at hu
    | 1, hu => simp at hu
    | 2, hu => simp at hu
    | n + 3, hu => simp at hu
  · rw [Below.heap_setCell _ _ _ _ hk, Below.heap_setCell _ _ _ _ hk, Below.heap_setCell _ _ _ _ hk]
set_option maxRecDepth 100000 in
set_option maxHeartbeats 4000000 in
theorem read_s (v : Value) (xs : List Rz) (w : World) (hs : SlAt w 4 RRz v xs) (hV : SrV w) (hT : PwT w) (hM : Tab w) :
    Calls Tryz.prog 10 #[v] w fun e w' => ∃ vr vz vl, e = .returned (.tuple #[.agg #[vr, vz, vl], .bool (decide (srcE (srcO xs) = 0))]) ∧ SrcAt w' vr vz vl (srcO xs) ∧ Below w.heap.size w w' := by
  obtain ⟨W0, hW0⟩ : ∃ W0, W0 = w.alloc (.cells #[.slice none 0 0, .slice none 0 0, .slice none 0 0] 29) := ⟨_, rfl⟩
  have B0 : Hid (Below w.heap.size w W0) := by show Below _ _ _; rw [hW0]; exact (Below.refl _ _).alloc (Nat.le_refl _) _
  have D0 : Hid (BxO W0 w.heap.size #[.slice none 0 0, .slice none 0 0, .slice none 0 0] 29) := by show BxO _ _ _ _; rw [hW0]; exact BxO.new _ _ _
  have H0 := Lib.hid hW0
  have HSO := Lib.hid (Source_s xs v W0 (hs.mono B0.out fun _ _ h => h) (hT.below B0.out))
  have HV := Lib.hid hV
  have HM := Lib.hid (And.intro hM hV.mx)
  have HRD := Lib.hid (fun wx (h : SrV wx) => Read_any (bx (srcT xs)) wx h (by rw [bx_size]; have := srcT_len xs; unfold maxLen; omega))
  have sb := srcV_bd (bx (srcT xs)) (by rw [bx_size]; have := srcT_len xs; unfold maxLen; omega)
  obtain ⟨q1, q2, q3⟩ := src_reads xs
  rw [q1, q2, q3] at HRD
  rw [q3] at sb
  have HCK := Lib.hid (fun wx vr vz vl h hv => check_any (srcO xs) vr vz vl wx h hv)
  obtain ⟨O, hO⟩ : ∃ o, srcO xs = o := ⟨_, rfl⟩
  rw [hO] at HRD HCK sb ⊢
  obtain ⟨C, hC⟩ : ∃ c, srcE O = c := ⟨_, rfl⟩
  have HC := Lib.hid hC
  rw [hC] at HCK ⊢
  obtain ⟨DC, hDC⟩ : ∃ d, decide (C = 0) = d := ⟨_, rfl⟩
  have hCC : (C == 0) = DC := by rw [← hDC]; rfl
  rw [hDC]
  clear hDC
  clear hW0 hs hV hT hM q1 q2 q3 hO hC
  go_enter Tryz.func10, Tryz.ntmps10
  go_upto_region 1 with fail
  rw [← H0.out]
  clear H0
  go_wp2_with fail
  refine HSO.out.mono ?_; rintro e w1 ⟨rfl, b1⟩
  have B1 : Hid (Below w.heap.size w w1) := B0.out.trans (b1.mono B0.out.size)
  have D1 : Hid (BxO w1 w.heap.size #[.slice none 0 0, .slice none 0 0, .slice none 0 0] 29) := (b1.block _ D0.out.lt).trans D0.out
  clear b1 HSO B0 D0
  go_wp2_with fail
  refine (HRD.out _ (HV.out.below B1.out)).mono ?_; rintro e w2 ⟨vr, vz, vl, rfl, hx, b2⟩
  obtain ⟨W2, hW2⟩ : ∃ W2, W2 = w2.alloc (.cells #[vr, vz, vl] 29) := ⟨_, rfl⟩
  have R2 : Hid (RdB w W2 w2.heap.size vr vz vl O) := by
    show RdB _ _ _ _ _ _ _
    have ba := (Below.refl w2.heap.size w2).alloc (Nat.le_refl _) (.cells #[vr, vz, vl] 29)
    rw [hW2]
    exact ⟨(B1.out.trans (b2.mono B1.out.size)).trans (ba.mono (Nat.le_trans B1.out.size b2.size)), (ba.block _ (Nat.lt_of_lt_of_le D1.out.lt b2.size)).trans ((b2.block _ D1.out.lt).trans D1.out), BxO.new _ _ _, srcAt_of (hx.mono ba) sb⟩
  have H2 := Lib.hid hW2
  obtain ⟨a0, c0, rfl, -⟩ := hx.1.shape
  obtain ⟨a1, c1, rfl, -⟩ := hx.2.1.shape
  obtain ⟨a2, c2, rfl, -⟩ := hx.2.2.shape
  generalize O.rules.length = n0 at *
  generalize O.zones.length = n1 at *
  generalize O.links.length = n2 at *
  have hne : w2.heap.size ≠ w.heap.size := by have h1 := D1.out.lt; have h2 := b2.size; omega
  have hne' : w.heap.size ≠ w2.heap.size := fun e => hne e.symm
  clear hW2 hx b2 HRD B1 D1 sb
  go_upto_region 2 with fail
  rw [← H2.out]
  clear H2
  have x0 : W2.cell? ⟨w2.heap.size, 0, none⟩ = some (.slice a0 n0 c0) := R2.out.x.cell 0
  have x1 : W2.cell? ⟨w2.heap.size, 1, none⟩ = some (.slice a1 n1 c1) := R2.out.x.cell 1
  have x2 : W2.cell? ⟨w2.heap.size, 2, none⟩ = some (.slice a2 n2 c2) := R2.out.x.cell 2
  have xl := R2.out.x.lt
  go_region_held3 (fun w' => w'.cell? ⟨w2.heap.size, 0, none⟩ = some (.slice a0 n0 c0) ∧ w'.cell? ⟨w2.heap.size, 1, none⟩ = some (.slice a1 n1 c1) ∧ w'.cell? ⟨w2.heap.size, 2, none⟩ = some (.slice a2 n2 c2)) (first | (with_reducible exact ⟨x0, x1, x2⟩) | (with_reducible exact ⟨y0, y1, y2⟩) | go_keep) (first | (go_at_call 18; refine (HCK.out _ _ _ _ (by first | exact R2.out.s | exact (R2.out.next ((Below.refl _ _).drew)).s) (by first | exact ⟨HM.out.1.below R2.out.b, HM.out.2.below R2.out.b⟩ | exact ⟨HM.out.1.below (R2.out.next ((Below.refl _ _).drew)).b, HM.out.2.below (R2.out.next ((Below.refl _ _).drew)).b⟩)).mono ?_; rintro e w3 ⟨rfl, b3⟩; have R3 := Lib.hid (R2.out.next (by first | exact b3 | exact ((Below.refl _ _).drew).trans b3)); have y0 : w3.cell? ⟨w2.heap.size, 0, none⟩ = some (.slice a0 n0 c0) := R3.out.x.cell 0; have y1 : w3.cell? ⟨w2.heap.size, 1, none⟩ = some (.slice a1 n1 c1) := R3.out.x.cell 1; have y2 : w3.cell? ⟨w2.heap.size, 2, none⟩ = some (.slice a2 n2 c2) := R3.out.x.cell 2; have r0 : w3.cell? ⟨w.heap.size, 0, none⟩ = some (.slice none 0 0) := R3.out.d.cell 0; have r1 : w3.cell? ⟨w.heap.size, 1, none⟩ = some (.slice none 0 0) := R3.out.d.cell 1; have r2 : w3.cell? ⟨w.heap.size, 2, none⟩ = some (.slice none 0 0) := R3.out.d.cell 2; have f0 : w3.frozen? ⟨w.heap.size, 0, none⟩ = false := R3.out.d.frozen 0; have f1 : w3.frozen? ⟨w.heap.size, 1, none⟩ = false := R3.out.d.frozen 1; have f2 : w3.frozen? ⟨w.heap.size, 2, none⟩ = false := R3.out.d.frozen 2; have zl := R3.out.d.lt; clear b3))
  all_goals
    go_wp2
    refine bodyPost_ret (v := .tuple #[.agg #[.slice a0 n0 c0, .slice a1 n1 c1, .slice a2 n2 c2], .bool DC]) (by simp [results, Tryz.results10, go_sem, r0, r1, r2, zl]) rfl ⟨_, _, _, rfl, R3.out.done _ _ _⟩
end Go.Proofs.YtcmlcmokjgkciaaGreatDoor

namespace Go.Proofs.YtcmlcmokjgkciaaGreatDoor
set_option linter.unusedVariables false
set_option linter.unusedSimpArgs false
open Go.ChangeShapes Go.WideShapes Go.ChangeAt Go.RowKit Civ

/-- spans rise, and change. -/
def RiS (L : List Spn) : Prop := ∀ (i : Nat) (h : i + 1 < L.length), L[i].fr < L[i + 1].fr ∧ L[i + 1].ck ≠ L[i].ck
theorem RiS.snoc {L : List Spn} {p x : Spn} (h : RiS L) (hp : L.getLast? = some p) (h1 : p.fr < x.fr) (h2 : x.ck ≠ p.ck) : RiS (L ++ [x]) := by
  intro i hi
  rw [List.length_append] at hi
  simp only [List.length_cons, List.length_nil] at hi
  by_cases e : i + 1 < L.length
  · rw [List.getElem_append_left (by omega), List.getElem_append_left e]
    exact h i e
  · have e1 : i + 1 = L.length := by omega
    have hl : L[i]'(by omega) = p := by
      rw [List.getLast?_eq_getElem?, ← e1, Nat.add_sub_cancel, List.getElem?_eq_getElem (by omega)] at hp
      exact Option.some.inj hp
    rw [List.getElem_append_left (by omega), List.getElem_append_right (by omega), hl]
    simp only [e1, Nat.sub_self, List.getElem_cons_zero]
    exact ⟨h1, h2⟩
theorem foldP_ris (C : Int → Clk) : ∀ (l : List Int) (L : List Spn), RiS L → L ≠ [] → (∀ p, L.getLast? = some p → ∀ t ∈ l, p.fr < t) → l.Pairwise (· < ·) →
    RiS (l.foldl (addP C) L) ∧ (l.foldl (addP C) L).head? = L.head? ∧ ∀ p ∈ l.foldl (addP C) L, p ∈ L ∨ p.fr ∈ l
  | [], L, h, _, _, _ => ⟨h, rfl, fun p hp => .inl hp⟩
  | t :: l, L, h, hne, hl, hp => by
    have hp1 := List.pairwise_cons.1 hp
    obtain ⟨p, hpl⟩ : ∃ p, L.getLast? = some p := by
      cases e : L.getLast? with
      | none => exact absurd (List.getLast?_eq_none_iff.1 e) hne
      | some p => exact ⟨p, rfl⟩
    rw [List.foldl_cons]
    by_cases e : p.ck = C t
    · rw [addP_same hpl e]
      obtain ⟨a, b, c⟩ := foldP_ris C l L h hne (fun q hq x hx => hl q hq x (List.mem_cons_of_mem _ hx)) hp1.2
      refine ⟨a, b, fun q hq => ?_⟩
      rcases c q hq with h | h
      · exact .inl h
      · exact .inr (List.mem_cons_of_mem _ h)
    · have ea : addP C L t = L ++ [⟨t, C t⟩] := by unfold addP; rw [hpl]; simp [e]
      rw [ea]
      have hr : RiS (L ++ [⟨t, C t⟩]) := h.snoc hpl (hl p hpl t (by simp)) (fun e' => e e'.symm)
      obtain ⟨a, b, c⟩ := foldP_ris C l _ hr (by simp) (fun q hq x hx => by
        rw [List.getLast?_append] at hq
        simp only [List.getLast?_singleton, Option.some_or, Option.some.injEq] at hq
        rw [← hq]
        exact hp1.1 x hx) hp1.2
      refine ⟨a, ?_, fun q hq => ?_⟩
      · rw [b]
        cases L with
        | nil => exact absurd rfl hne
        | cons y L => rfl
      · rcases c q hq with h | h
        · rcases List.mem_append.1 h with h | h
          · exact .inl h
          · rw [List.mem_singleton.1 h]; exact .inr (by simp)
        · exact .inr (List.mem_cons_of_mem _ h)
theorem spn_rise {rules : List Rul} {eras : List Ero} {ends : List Int} (hr : Rise ends) (hl : ends.length + 1 = eras.length) :
    RiS (spnK rules eras ends eras.length) ∧ (∃ c l, spnK rules eras ends eras.length = ⟨-2208988800, c⟩ :: l) ∧ ∀ p ∈ spnK rules eras ends eras.length, -2208988800 ≤ p.fr ∧ p.fr < 4102444800 := by
  rw [← spnR_eq hr hl]
  unfold spnR
  have hA : ((srtC (ptsA rules eras ends)).filter winP).Pairwise (· < ·) := (srtC_rise _).filter _
  have hm : ∀ t ∈ (srtC (ptsA rules eras ends)).filter winP, -2208988800 ≤ t ∧ t < 4102444800 := fun t ht => by
    have := (List.mem_filter.1 ht).2
    rw [winP, Bool.and_eq_true, decide_eq_true_iff, decide_eq_true_iff] at this
    exact this
  obtain ⟨m, em⟩ := head_of_rise hA (u := -2208988800) (List.mem_filter.2 ⟨(srtC_mem _ _).2 (by simp [ptsA]), by decide⟩) fun x hx => (hm x hx).1
  rw [em] at hA hm ⊢
  rw [List.foldl_cons, addP_nil]
  have hp1 := List.pairwise_cons.1 hA
  obtain ⟨a, b, c⟩ := foldP_ris (clkT rules eras ends) m [⟨-2208988800, clkT rules eras ends (-2208988800)⟩] (fun i h => by simp at h) (by simp) (fun p hp t ht => by
    simp only [List.getLast?_singleton, Option.some.injEq] at hp
    rw [← hp]
    exact hp1.1 t ht) hp1.2
  refine ⟨a, ?_, fun p hp => ?_⟩
  · cases e : m.foldl (addP (clkT rules eras ends)) [⟨-2208988800, clkT rules eras ends (-2208988800)⟩] with
    | nil => rw [e] at b; cases b
    | cons y l =>
      rw [e] at b
      simp only [List.head?_cons, Option.some.injEq] at b
      exact ⟨_, l, by rw [b]⟩
  · rcases c p hp with h | h
    · rw [List.mem_singleton.1 h]; exact ⟨Int.le_refl _, by show (-2208988800 : Int) < 4102444800; decide⟩
    · exact hm _ (List.mem_cons_of_mem _ h)
/-- what SpansRise asks of the spans of the first zone. -/
theorem spO_rise (xs : List Rz) (h : srcE (srcO xs) = 0) :
    (spE (srcO xs) (bx oneWd) = 1 ∧ spV (srcO xs) (bx oneWd) = []) ∨ (spE (srcO xs) (bx oneWd) = 0 ∧ RiS (spV (srcO xs) (bx oneWd)) ∧ (∃ c l, spV (srcO xs) (bx oneWd) = ⟨-2208988800, c⟩ :: l) ∧ (∀ p ∈ spV (srcO xs) (bx oneWd), -2208988800 ≤ p.fr ∧ p.fr < 4102444800) ∧ (spV (srcO xs) (bx oneWd)).length ≤ 1000) := by
  have hf : folL (srcO xs) 8 (bx oneWd) = 0 := fol_one xs 8
  have hn : fndS (srcO xs) (bx oneWd) = 0 := by
    unfold fndS
    rw [if_neg (by simp [h]), hf, if_neg (by decide)]
  have hi : 0 < (srcO xs).zones.length := by show 0 < 2; decide
  have hg := gdZ_of h 0 hi
  have hs : spS (srcO xs) (bx oneWd) = spnZ (srcO xs).rules (srcO xs).zones[0].eras := by
    unfold spS
    rw [hf]
    rfl
  by_cases h2 : 1000 < (spS (srcO xs) (bx oneWd)).length
  · have e := spE_l hn h2
    exact .inl ⟨e, spV_n (by rw [e]; decide)⟩
  · have e := spE_z hn h2
    have hv := spV_z e
    refine .inr ⟨e, ?_⟩
    have h3 := spn_rise (rules := (srcO xs).rules) hg.r hg.len
    rw [hv]
    refine ⟨?_, ?_, ?_, by omega⟩
    · rw [hs]; exact h3.1
    · rw [hs]; exact h3.2.1
    · rw [hs]; exact h3.2.2
end Go.Proofs.YtcmlcmokjgkciaaGreatDoor

namespace Go.Proofs.YtcmlcmokjgkciaaGreatDoor
set_option linter.unusedVariables false
set_option linter.unusedSimpArgs false
open Go.ChangeShapes Go.WideShapes Go.ChangeAt Go.RowKit Civ

/-- two spans beside each other. -/
theorem ris_at {L : List Spn} (h : RiS L) {j k : Nat} (hj : k = j + 1) (hk : k < L.length) : (L[j]'(by omega)).fr < L[k].fr ∧ L[k].ck ≠ (L[j]'(by omega)).ck := by
  subst hj
  exact h j hk
theorem clk_ne {po ko : Int} {ps ks : Bool} {pn kn : ByteArray} (he : (⟨po, ps, pn⟩ : Clk) ≠ ⟨ko, ks, kn⟩) : (po == ko) = false ∨ ((po == ko) = true ∧ (ps == ks) = false) ∨ ((po == ko) = true ∧ (ps == ks) = true ∧ (pn.toList == kn.toList) = false) := by
  by_cases h1 : po = ko
  · right
    by_cases h2 : ps = ks
    · right
      refine ⟨by simp [h1], by simp [h2], ?_⟩
      rw [streqS, decide_eq_false_iff_not]
      intro h3
      exact he (by rw [h1, h2, h3])
    · left
      exact ⟨by simp [h1], beq_eq_false_iff_ne.2 h2⟩
  · left
    exact beq_eq_false_iff_ne.2 h1
set_option maxRecDepth 100000 in
set_option maxHeartbeats 4000000 in
theorem walkSpansRise (v : Value) (xs : List Rz) (W : World) (hs : SlAt W 4 RRz v xs) (hV : (SrV W ∧ PwT W) ∧ Tab W) :
    Calls Tryz.prog 4 #[v] W fun e w' => e = .returned (.bool true) ∧ Below W.heap.size W w' := by
  have HRE := Lib.hid (read_s v xs W hs hV.1.1 hV.1.2 hV.2)
  by_cases h0 : srcE (srcO xs) = 0
  · have hcase := spO_rise xs h0
    rw [show decide (srcE (srcO xs) = 0) = true from by simp [h0]] at HRE
    have HSP := Lib.hid (fun wx vr vz vl h hv => Spans_any (srcO xs) (bx oneWd) vr vz vl wx h hv)
    have HTM := Lib.hid (fun wx (hb : Below W.heap.size W wx) => And.intro (hV.2.below hb) (hV.1.1.mx.below hb))
    obtain ⟨E, hE⟩ : ∃ e, spE (srcO xs) (bx oneWd) = e := ⟨_, rfl⟩
    obtain ⟨L, hL⟩ : ∃ l, spV (srcO xs) (bx oneWd) = l := ⟨_, rfl⟩
    rw [hE, hL] at HSP hcase
    rw [show bx oneWd = ⟨#[79, 110, 101, 47, 65]⟩ from rfl] at HSP
    obtain ⟨O, hO⟩ : ∃ o, srcO xs = o := ⟨_, rfl⟩
    rw [hO] at HRE HSP
    have HCA := Lib.hid hcase
    clear hE hL hO h0 hs hV hcase
    go_enter Tryz.func4, Tryz.ntmps4
    go_wp2_with fail
    refine HRE.out.mono ?_; rintro e w1 ⟨vr, vz, vl, rfl, hx, b1⟩
    obtain ⟨W1, hW1⟩ : ∃ W1, W1 = w1.alloc (.cells #[vr, vz, vl] 29) := ⟨_, rfl⟩
    have B1 : Hid (Below W.heap.size W W1) := by show Below _ _ _; rw [hW1]; exact b1.alloc b1.size _
    have X1 : Hid (BxO W1 w1.heap.size #[vr, vz, vl] 29) := by show BxO _ _ _ _; rw [hW1]; exact BxO.new _ _ _
    have S1 : Hid (SrcAt W1 vr vz vl O) := by show SrcAt _ _ _ _ _; rw [hW1]; exact hx.mono ((Below.refl _ _).alloc (Nat.le_refl _) _)
    have H1 := Lib.hid hW1
    obtain ⟨a0, c0, rfl, -⟩ := hx.1.shape
    obtain ⟨a1, c1, rfl, -⟩ := hx.2.1.shape
    obtain ⟨a2, c2, rfl, -⟩ := hx.2.2.shape
    generalize O.rules.length = n0 at *
    generalize O.zones.length = n1 at *
    generalize O.links.length = n2 at *
    clear hW1 hx b1 HRE
    go_upto_region 2 with fail
    rw [← H1.out]
    clear H1
    have x0 : W1.cell? ⟨w1.heap.size, 0, none⟩ = some (.slice a0 n0 c0) := X1.out.cell 0
    have x1 : W1.cell? ⟨w1.heap.size, 1, none⟩ = some (.slice a1 n1 c1) := X1.out.cell 1
    have x2 : W1.cell? ⟨w1.heap.size, 2, none⟩ = some (.slice a2 n2 c2) := X1.out.cell 2
    have xl := X1.out.lt
    go_wp2_with fail
    refine (HSP.out _ _ _ _ S1.out (HTM.out _ B1.out)).mono ?_; rintro e w2 ⟨u, rfl, ho, b2⟩
    have B2 : Hid (Below W.heap.size W w2) := B1.out.trans (b2.mono B1.out.size)
    obtain ⟨aL, cL, rfl⟩ := own_shape ho
    have HO := Lib.hid ho
    generalize W1.heap.size = D at *
    clear x0 x1 x2 xl ho b2 HSP HTM S1 X1 B1
    go_wp2_with fail
    refine (winIn _).mono ?_; rintro e w' ⟨rfl, rfl⟩
    rcases HCA.out with ⟨rfl, rfl⟩ | ⟨rfl, hr, ⟨ck, l, hl⟩, hw, hle⟩
    · clear HCA
      go_wp2
      go_ret
      exact ⟨ret_bool (by simp), B2.out⟩
    · have HR := Lib.hid hr
      have HW := Lib.hid hw
      have hp : 0 < L.length := by rw [hl]; simp
      obtain ⟨b, rfl, hb, z0, -, -, -⟩ := spn_of_own HO.out 0 hp
      have h00 : L[0].fr = -2208988800 := by subst hl; rfl
      rw [h00] at z0
      simp only [Nat.zero_mul] at z0
      obtain ⟨n, hn⟩ : ∃ n, L.length = n := ⟨_, rfl⟩
      have HN := Lib.hid hn
      rw [hn] at hp hle
      rw [hn]
      have hn0 : ((n : Int) == 0) = false := by rw [beq_eq_false_iff_ne]; omega
      have hpi : (0 : Int) < (n : Int) := by omega
      clear HCA hr hw hl h00 hn
      go_wp2_with fail
      go_loopw [9] (fun vi wr => ∃ k : Nat, 1 ≤ k ∧ k ≤ n ∧ vi = .int .i64 k ∧ Hid (Below w2.heap.size w2 wr)) (fun vi _ => (n - intOf vi).toNat)
      case atStart => exact ⟨1, Nat.le_refl _, hp, rfl, Below.refl _ _⟩
      case round =>
        obtain ⟨k, h1k, hk, rfl, BK⟩ := hrel
        have BR : Hid (Below W.heap.size W wr) := B2.out.trans (BK.out.mono B2.out.size)
        by_cases hlt : k < n
        · have hki : (k : Int) < (n : Int) := by omega
          obtain ⟨j, hj⟩ : ∃ j, k = j + 1 := ⟨k - 1, by omega⟩
          have hkL : k < L.length := by rw [HN.out]; exact hlt
          have hjL : j < L.length := by omega
          have hjn : j < n := by omega
          have hji : (j : Int) < (n : Int) := by omega
          have tw : IntKind.i64.wrap ((k : Int) - 1) = (j : Int) := by rw [IntWalk.i64_in _ (by omega)]; omega
          have OK := Lib.hid (ownsRow_below HO.out BK.out (Nat.le_refl _))
          obtain ⟨b', e1, hb', c0, c1, c2, c3⟩ := spn_of_own OK.out k hkL
          obtain rfl : b = b' := by simpa using e1
          obtain ⟨b'', e2, -, d0, d1, d2, d3⟩ := spn_of_own OK.out j hjL
          obtain rfl : b = b'' := by simpa using e2
          obtain ⟨g1, g2⟩ := ris_at HR.out hj hkL
          obtain ⟨g3, g4⟩ := HW.out L[k] (List.getElem_mem hkL)
          clear e1 e2 OK
          generalize L[k] = x at *
          generalize L[j] = y at *
          clear hkL hjL
          obtain ⟨xf, ⟨xo, xv, xn⟩⟩ := x
          obtain ⟨yf, ⟨yo, yv, yn⟩⟩ := y
          dsimp only at c0 c1 c2 c3 d0 d1 d2 d3 g1 g2 g3 g4
          have t1 : decide (xf ≤ yf) = false := by rw [decide_eq_false_iff_not]; omega
          have t2 : decide (4102444800 ≤ xf) = false := by rw [decide_eq_false_iff_not]; omega
          have t3 : decide (xf ≥ 4102444800) = false := by rw [decide_eq_false_iff_not]; omega
          have g5 := clk_ne g2
          have HJ := Lib.hid hj
          clear g2 g3 hj
          rcases g5 with h1 | ⟨h1, h2⟩ | ⟨h1, h2, h3⟩
          all_goals
            go_wp2_with fail
            go_quiet (fail)
            go_wp2
            go_roundw
            case rel => exact ⟨k + 1, by omega, by omega, by go_num, below_draws BK.out _⟩
            case measure => simp [intOf]; omega
        · go_wp2
          go_ret
          exact ⟨ret_bool (by simp), BR.out⟩
  · rw [show decide (srcE (srcO xs) = 0) = false from by simp [h0]] at HRE
    clear h0 hs hV
    go_enter Tryz.func4, Tryz.ntmps4
    go_wp2_with fail
    refine HRE.out.mono ?_; rintro e w1 ⟨vr, vz, vl, rfl, hx, b1⟩
    obtain ⟨a0, c0, rfl, -⟩ := hx.1.shape
    obtain ⟨a1, c1, rfl, -⟩ := hx.2.1.shape
    obtain ⟨a2, c2, rfl, -⟩ := hx.2.2.shape
    generalize (srcO xs).rules.length = n0 at *
    generalize (srcO xs).zones.length = n1 at *
    generalize (srcO xs).links.length = n2 at *
    obtain ⟨W1, hW1⟩ : ∃ W1, W1 = w1.alloc (.cells #[.slice a0 n0 c0, .slice a1 n1 c1, .slice a2 n2 c2] 29) := ⟨_, rfl⟩
    have B1 : Hid (Below W.heap.size W W1) := by show Below _ _ _; rw [hW1]; exact b1.alloc b1.size _
    have H1 := Lib.hid hW1
    clear hW1 hx b1 HRE
    go_upto_region 2 with fail
    rw [← H1.out]
    clear H1
    go_wp2
    go_ret
    exact ⟨ret_bool (by simp), B1.out⟩
end Go.Proofs.YtcmlcmokjgkciaaGreatDoor

namespace Go.Proofs.YtcmlcmokjgkciaaGreatDoor
set_option linter.unusedVariables false
set_option linter.unusedSimpArgs false
set_option maxRecDepth 100000
open Go.ChangeShapes Go.WideShapes Go.ChangeAt Go.RowKit Civ
theorem i6_wf {n : Int} (h : (Lit.int .i64 n).wf = true) : I6 n := by
  obtain ⟨h1, h2⟩ := bounds_i64 h
  exact ⟨h1, by omega⟩
section
variable {H : Type} {enc : TypeId × Value → H} {w : World} {r : Reach} {b0 b : Nat} {sp : Nat → Bool} {held : Bool} {fuel : Nat} {cs : List Value} {y : DataW H × List MemPlace} {v : Value} {d : DataW H} {p : List MemPlace}
theorem rdRawsZ (h : DataW.trod enc Tryz.prog w b sp held fuel 43 cs = some y) : ∃ v xs, cs = [v] ∧ SlAt w 4 RRz v xs :=
  slAt_of_trod Tryz.underlying43 cRaw (by omega) (fun m cs' z hz => by
    obtain ⟨k, a, b, c, e, w1, w2, w3, w4⟩ := rdRaw hz
    exact ⟨⟨k, a, b, c⟩, e, ⟨i6_wf w1, i6_wf w2, i6_wf w3, i6_wf w4⟩⟩) h
theorem openRawsZ (hv : Value.okWide Tryz.prog w r b0 43 v) (h : DataW.Trod enc Tryz.prog w b sp held 43 v d p) : ∃ xs, SlAt w 4 RRz v xs := by
  obtain ⟨a, len, cap, rfl⟩ := okWide_slice Tryz.underlying43 hv
  obtain ⟨fuel, hf⟩ := h
  obtain ⟨v', xs, e, h1⟩ := rdRawsZ hf
  have e' : [Value.slice a len cap] = [v'] := e
  simp only [List.cons.injEq, and_true] at e'
  subst e'
  exact ⟨xs, h1⟩
end
end Go.Proofs.YtcmlcmokjgkciaaGreatDoor
