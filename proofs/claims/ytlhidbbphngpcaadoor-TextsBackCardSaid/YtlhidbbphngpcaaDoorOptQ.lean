/-
  The library's slices.Sort and slices.Compact over numbers: their contracts, laid (the shelf's tool lay-plain printed the layings; the numbers by name).
  slices.Sort and slices.Compact on a row of the call's own.
  tree.pieces.
  tree.balanced.
  Nodes as keys of a map; what the map of shared nodes holds.
  tree.shared.
  tree.same, exactly; the first answer of a row that is the same as one in a box.
-/
import Derived.Shelf.Small.Bits
import Derived.Shelf.Sort.Plain
import Derived.Shelf.Slices.CompactI
import Derived.Shelf.Slices.Cells
import Derived.Shelf.Slices.In.SortNone
import Derived.Laws.AppendOwnNone
import Derived.DeepKeys4
import Derived.Maps.OwnOps
import Derived.RegionTactic
import Derived.Deep.OwnRows
import Derived.Test.YtlhidbbphngpcaaDoorProg
import Derived.Test.YtlhidbbphngpcaaDoorTreeT
import Derived.Test.YtlhidbbphngpcaaDoorOptP
import Derived.Test.YtlhidbbphngpcaaDoorTreeB
namespace Go.Proofs.YtlhidbbphngpcaaDoor
open Go.Shelf
def Sh.lays189_ren : Go.Shelf.Ren := ⟨fun | 189 => 57 | 125 => 79 | 257 => 78 | 128 => 101 | 129 => 83 | 294 => 92 | 295 => 93 | 296 => 94 | 297 => 95 | 298 => 96 | 299 => 97 | 216 => 98 | 300 => 99 | 301 => 100 | 328 => 104 | 329 => 105 | 330 => 106 | 331 => 107 | 332 => 108 | 215 => 109 | 343 => 110 | n => n, fun | 28 => 32 | 3 => 3 | 46 => 133 | 0 => 0 | 51 => 147 | 53 => 126 | 4 => 4 | 183 => 158 | 182 => 157 | 131 => 98 | 5 => 5 | 9 => 9 | 218 => 165 | 222 => 169 | 228 => 173 | 229 => 174 | n => n, fun | n => n⟩
theorem Sh.lays189 : Go.Proofs.Lays.n189 Tryd.prog Sh.lays189_ren := {
  mixed := by kernel_rfl
  f125 := Tryd.func79.trans (congrArg some (by kernel_rfl))
  f128 := Tryd.func101.trans (congrArg some (by kernel_rfl))
  f129 := Tryd.func83.trans (congrArg some (by kernel_rfl))
  f189 := Tryd.func57.trans (congrArg some (by kernel_rfl))
  f215 := Tryd.func109.trans (congrArg some (by kernel_rfl))
  f216 := Tryd.func98.trans (congrArg some (by kernel_rfl))
  f257 := Tryd.func78.trans (congrArg some (by kernel_rfl))
  f294 := Tryd.func92.trans (congrArg some (by kernel_rfl))
  f295 := Tryd.func93.trans (congrArg some (by kernel_rfl))
  f296 := Tryd.func94.trans (congrArg some (by kernel_rfl))
  f297 := Tryd.func95.trans (congrArg some (by kernel_rfl))
  f298 := Tryd.func96.trans (congrArg some (by kernel_rfl))
  f299 := Tryd.func97.trans (congrArg some (by kernel_rfl))
  f300 := Tryd.func99.trans (congrArg some (by kernel_rfl))
  f301 := Tryd.func100.trans (congrArg some (by kernel_rfl))
  f328 := Tryd.func104.trans (congrArg some (by kernel_rfl))
  f329 := Tryd.func105.trans (congrArg some (by kernel_rfl))
  f330 := Tryd.func106.trans (congrArg some (by kernel_rfl))
  f331 := Tryd.func107.trans (congrArg some (by kernel_rfl))
  f332 := Tryd.func108.trans (congrArg some (by kernel_rfl))
  f343 := Tryd.func110.trans (congrArg some (by kernel_rfl))
  t0 := Tryd.underlying0
  a0 := Tryd.isAgg0
  z0 := Tryd.sizeOf0
  v0 := Tryd.zeroValue0
  t3 := Tryd.underlying3
  a3 := Tryd.isAgg3
  z3 := Tryd.sizeOf3
  v3 := Tryd.zeroValue3
  t4 := Tryd.underlying4
  a4 := Tryd.isAgg4
  z4 := Tryd.sizeOf4
  v4 := Tryd.zeroValue4
  t5 := Tryd.underlying5
  a5 := Tryd.isAgg5
  z5 := Tryd.sizeOf5
  v5 := Tryd.zeroValue5
  t9 := Tryd.underlying9
  a9 := Tryd.isAgg9
  z9 := Tryd.sizeOf9
  v9 := Tryd.zeroValue9
  t28 := Tryd.underlying32
  a28 := Tryd.isAgg32
  z28 := Tryd.sizeOf32
  v28 := Tryd.zeroValue32
  t46 := Tryd.underlying133
  a46 := Tryd.isAgg133
  z46 := Tryd.sizeOf133
  v46 := Tryd.zeroValue133
  t51 := Tryd.underlying147
  a51 := Tryd.isAgg147
  z51 := Tryd.sizeOf147
  v51 := Tryd.zeroValue147
  t53 := Tryd.underlying126
  a53 := Tryd.isAgg126
  z53 := Tryd.sizeOf126
  v53 := Tryd.zeroValue126
  t131 := Tryd.underlying98
  a131 := Tryd.isAgg98
  z131 := Tryd.sizeOf98
  v131 := Tryd.zeroValue98
  t182 := Tryd.underlying157
  a182 := Tryd.isAgg157
  z182 := Tryd.sizeOf157
  v182 := Tryd.zeroValue157
  t183 := Tryd.underlying158
  a183 := Tryd.isAgg158
  z183 := Tryd.sizeOf158
  v183 := Tryd.zeroValue158
  t218 := Tryd.underlying165
  a218 := Tryd.isAgg165
  z218 := Tryd.sizeOf165
  v218 := Tryd.zeroValue165
  t222 := Tryd.underlying169
  a222 := Tryd.isAgg169
  z222 := Tryd.sizeOf169
  v222 := Tryd.zeroValue169
  t228 := Tryd.underlying173
  a228 := Tryd.isAgg173
  z228 := Tryd.sizeOf173
  v228 := Tryd.zeroValue173
  t229 := Tryd.underlying174
  a229 := Tryd.isAgg174
  z229 := Tryd.sizeOf174
  v229 := Tryd.zeroValue174 }
def Sh.laysNm220_ren : Go.Shelf.Ren := ⟨fun | 20 => 58 | n => n, fun | 22 => 32 | 3 => 3 | 4 => 4 | 0 => 0 | n => n, fun | n => n⟩
theorem Sh.laysNm220 : Go.Proofs.Lays2.n20 Tryd.prog Sh.laysNm220_ren := {
  mixed := by kernel_rfl
  f20 := Tryd.func58.trans (congrArg some (by kernel_rfl))
  t0 := Tryd.underlying0
  a0 := Tryd.isAgg0
  z0 := Tryd.sizeOf0
  v0 := Tryd.zeroValue0
  t3 := Tryd.underlying3
  a3 := Tryd.isAgg3
  z3 := Tryd.sizeOf3
  v3 := Tryd.zeroValue3
  t4 := Tryd.underlying4
  a4 := Tryd.isAgg4
  z4 := Tryd.sizeOf4
  v4 := Tryd.zeroValue4
  t22 := Tryd.underlying32
  a22 := Tryd.isAgg32
  z22 := Tryd.sizeOf32
  v22 := Tryd.zeroValue32
  i3 := by kernel_rfl }
open Go.Sort Go.RowKit in
theorem Sh.slices_Sort_int (blk off cap : Nat) (zs : List Int) (w : World) (hH : Holds (Value.int .i64) w blk off zs.toArray) (hblk : blk < w.heap.size) (hsz : zs.length < 4611686018427387904) :
    Calls Tryd.prog 57 #[.slice (some ⟨blk, off, none⟩) zs.length cap] w fun e w' =>
      e = .returned (.tuple #[]) ∧ ∃ n os, w' = grow (putRow (Value.int .i64) (Sort.ahead w n) blk off (zs.mergeSort fun x y => decide (x ≤ y)).toArray) os := Any.slices_Sort_int Sh.lays189 blk off cap zs w hH hblk hsz
open Go.RowKit Go.Lib Go.Sort in
theorem Sh.slices_Compact_int (blk off cap : Nat) (zs : List Int) (w : World) (hH : Holds (Value.int .i64) w blk off zs.toArray) (hsz : zs.length ≤ 9223372036854775807) (hcap : zs.length ≤ cap) :
    Calls Tryd.prog 58 #[.slice (some ⟨blk, off, none⟩) zs.length cap] w fun e w' => e = .returned (.slice (some ⟨blk, off, none⟩) (Lib.compact zs).length cap) ∧ ∃ q, w' = putRow (Value.int .i64) (Sort.ahead w q) blk off (Lib.compact zs ++ List.replicate (zs.length - (Lib.compact zs).length) 0).toArray := Any.slices_Compact_int Sh.laysNm220 blk off cap zs w hH hsz hcap
open Go.RowKit Go.Lib Go.Sort in
theorem Sh.slices_Compact_int_empty (a : Option Addr) (cap : Nat) (w : World) :
    Calls Tryd.prog 58 #[.slice a 0 cap] w fun e w' => e = .returned (.slice a 0 cap) ∧ w' = w := Any.slices_Compact_int_empty Sh.laysNm220 a cap w
open Go.RowKit Go.Sort in
theorem Sh.slices_Sort_int_none (p : Option Addr) (cap : Nat) (w : World) :
    Calls Tryd.prog 57 #[.slice p 0 cap] w fun e w' => e = .returned (.tuple #[]) ∧ w' = w := Any.slices_Sort_int_none Sh.lays189 p cap w
end Go.Proofs.YtlhidbbphngpcaaDoor
namespace Go.Proofs.YtlhidbbphngpcaaDoor
set_option linter.unusedVariables false
set_option linter.unusedSimpArgs false
open Go.ChangeShapes Go.WideShapes Go.ChangeAt Go.RowKit

theorem flatI (xs : List Int) : xs.flatMap encI = xs.map (Value.int .i64) := by
  induction xs with
  | nil => rfl
  | cons x xs ih => rw [List.flatMap_cons, ih]; rfl
theorem holds_own {w : World} {B n : Nat} {e : TypeId} {g cap : Nat} {xs : List Int} (h : w.ownsRow B e 1 (.slice (some ⟨g, 0, none⟩) n cap) xs.length (xs.flatMap encI)) : Go.Sort.Holds (Value.int .i64) w g 0 xs.toArray := by
  intro j hj
  have hj' : j < xs.length := by simpa using hj
  obtain ⟨hl, h2⟩ := h
  rcases h2 with ⟨h2, _⟩ | ⟨g', cap', cur, hv, hb, hh, hc, hm, hs, ht⟩
  · cases h2
  · injection hv with e1 e2 e3
    injection e1 with e1
    injection e1 with e1
    subst e1
    have hcur : cur[0 + j]? = some (.int .i64 xs[j]) := by
      have e4 : (cur.toList.take (xs.length * 1))[j]? = cur.toList[j]? := by
        rw [List.getElem?_take, if_pos (by omega)]
      rw [ht, flatI, List.getElem?_map, List.getElem?_eq_getElem hj'] at e4
      rw [Nat.zero_add, ← Array.getElem?_toList, ← e4]; rfl
    constructor
    · unfold World.cell?
      rw [show (⟨g, 0 + j, none⟩ : Addr).block = g from rfl, hh]
      rw [getElem!_pos xs.toArray j hj, List.getElem_toArray]
      simpa [World.cell?] using hcur
    · simp [World.frozen?, hh]
theorem put_own {w : World} {B n m : Nat} {e : TypeId} {g cap : Nat} {xs ys : List Int} (os : Array Obj) (k : Nat) (h : w.ownsRow B e 1 (.slice (some ⟨g, 0, none⟩) n cap) xs.length (xs.flatMap encI)) (hm : m ≤ ys.length) (hy : ys.length = xs.length) :
    (Go.Sort.grow (Go.Sort.putRow (Value.int .i64) (Go.Sort.ahead w k) g 0 ys.toArray) os).ownsRow B e 1 (.slice (some ⟨g, 0, none⟩) m cap) m ((ys.take m).flatMap encI) ∧
    w.grownBy (Go.Sort.grow (Go.Sort.putRow (Value.int .i64) (Go.Sort.ahead w k) g 0 ys.toArray) os) (some g) := by
  obtain ⟨hl, h2⟩ := h
  rcases h2 with ⟨h2, _⟩ | ⟨g', cap', cur, hv, hb, hh, hc, hmx, hs, ht⟩
  · cases h2
  · injection hv with e1 e2 e3
    injection e1 with e1
    injection e1 with e1
    subst e1 e3
    have hg : g < w.heap.size := by
      rcases Nat.lt_or_ge g w.heap.size with q | q
      · exact q
      · rw [Array.getElem?_eq_none q] at hh; cases hh
    have hsz : (Go.Sort.putRow (Value.int .i64) (Go.Sort.ahead w k) g 0 ys.toArray).heap.size = w.heap.size := by
      unfold Go.Sort.putRow Go.Sort.mapBlock Go.Sort.ahead
      simp
    have hblk : (Go.Sort.grow (Go.Sort.putRow (Value.int .i64) (Go.Sort.ahead w k) g 0 ys.toArray) os).heap[g]? = some (.cells (Go.Sort.putCells (Value.int .i64) 0 ys.toArray cur) e (0, 0)) := by
      unfold Go.Sort.grow
      dsimp only
      rw [Array.getElem?_append_left (by rw [hsz]; exact hg)]
      unfold Go.Sort.putRow Go.Sort.mapBlock Go.Sort.ahead
      dsimp only
      rw [Array.getElem?_modify, if_pos rfl, hh]
      rfl
    refine ⟨⟨by rw [flatI]; simp; omega, .inr ⟨g, cap, _, rfl, hb, hblk, by omega, hmx, ?_, ?_⟩⟩, rfl, rfl, rfl, ?_, fun b hb' hne => ?_⟩
    · unfold Go.Sort.putCells; rw [Array.size_mapIdx]; exact hs
    · apply List.ext_getElem?
      intro j
      rw [flatI, Nat.mul_one]
      by_cases hj : j < m
      · rw [List.getElem?_take, if_pos hj, Array.getElem?_toList]
        unfold Go.Sort.putCells
        rw [Array.getElem?_mapIdx]
        have hjc : j < cur.size := by omega
        rw [Array.getElem?_eq_getElem hjc]
        simp only [Option.map_some, Nat.zero_le, true_and, Nat.zero_add, Nat.sub_zero]
        rw [if_pos (by simp; omega), getElem!_pos ys.toArray j (by simp; omega), List.getElem_toArray, List.getElem?_map, List.getElem?_take, if_pos hj, List.getElem?_eq_getElem (by omega)]
        rfl
      · rw [List.getElem?_eq_none (by rw [List.length_take]; omega), List.getElem?_eq_none (by rw [List.length_map, List.length_take]; omega)]
    · unfold Go.Sort.grow
      dsimp only
      rw [Array.size_append, hsz]
      omega
    · unfold Go.Sort.grow
      dsimp only
      rw [Array.getElem?_append_left (by rw [hsz]; exact hb')]
      unfold Go.Sort.putRow Go.Sort.mapBlock Go.Sort.ahead
      dsimp only
      rw [Array.getElem?_modify, if_neg (fun e => hne (by rw [e]))]
/-- slices.Sort of a row of the call's own. -/
theorem sort_own (v : Value) (xs : List Int) (B : Nat) (w : World) (h : w.ownsRow B 3 1 v xs.length (xs.flatMap encI)) (hl : xs.length < 4611686018427387904) :
    Calls Tryd.prog 57 #[v] w fun e w' => e = .returned (.tuple #[]) ∧ w'.ownsRow B 3 1 v (srt xs).length ((srt xs).flatMap encI) ∧ w.grownBy w' v.ownBlock := by
  have h0 := h
  rcases h0.2 with ⟨rfl, hz⟩ | ⟨g, cap, cur, rfl, hb, hh, hc, hmx, hs, ht⟩
  · obtain rfl : xs = [] := List.length_eq_zero_iff.1 hz
    refine (Sh.slices_Sort_int_none none 0 w).mono ?_
    rintro e w' ⟨rfl, rfl⟩
    rw [show srt [] = [] from List.length_eq_zero_iff.1 (srt_len [])]
    exact ⟨rfl, World.ownsRow_nil _ _ _ _, rfl, rfl, rfl, Nat.le_refl _, fun _ _ _ => rfl⟩
  · have hg : g < w.heap.size := by
      rcases Nat.lt_or_ge g w.heap.size with q | q
      · exact q
      · rw [Array.getElem?_eq_none q] at hh; cases hh
    refine (Sh.slices_Sort_int g 0 cap xs w (holds_own h) hg hl).mono ?_
    rintro e w' ⟨rfl, n, os, rfl⟩
    have hp := put_own (m := xs.length) (ys := srt xs) os n h (by rw [srt_len]; exact Nat.le_refl _) (srt_len xs)
    rw [show (srt xs).take xs.length = srt xs from List.take_of_length_le (by rw [srt_len]; exact Nat.le_refl _)] at hp
    rw [srt_len]
    exact ⟨rfl, hp.1, hp.2⟩
/-- slices.Compact of a row of the call's own. -/
theorem compact_own (v : Value) (xs : List Int) (B : Nat) (w : World) (h : w.ownsRow B 3 1 v xs.length (xs.flatMap encI)) :
    Calls Tryd.prog 58 #[v] w fun e w' => ∃ v', e = .returned v' ∧ w'.ownsRow B 3 1 v' (Lib.compact xs).length ((Lib.compact xs).flatMap encI) ∧ w.grownBy w' v.ownBlock ∧ v'.ownBlock = v.ownBlock := by
  have h0 := h
  rcases h0.2 with ⟨rfl, hz⟩ | ⟨g, cap, cur, rfl, hb, hh, hc, hmx, hs, ht⟩
  · obtain rfl : xs = [] := List.length_eq_zero_iff.1 hz
    refine (Sh.slices_Compact_int_empty none 0 w).mono ?_
    rintro e w' ⟨rfl, rfl⟩
    exact ⟨_, rfl, World.ownsRow_nil _ _ _ _, ⟨rfl, rfl, rfl, Nat.le_refl _, fun _ _ _ => rfl⟩, rfl⟩
  · refine (Sh.slices_Compact_int g 0 cap xs w (holds_own h) (by unfold maxLen at hmx; omega) hc).mono ?_
    rintro e w' ⟨rfl, q, rfl⟩
    have hcl := compact_le xs
    have hp := put_own (m := (Lib.compact xs).length) (ys := Lib.compact xs ++ List.replicate (xs.length - (Lib.compact xs).length) 0) #[] q h (by simp) (by simp; omega)
    rw [Go.Sort.grow_empty, List.take_left'] at hp
    · exact ⟨_, rfl, hp.1, hp.2, rfl⟩
    · rfl
end Go.Proofs.YtlhidbbphngpcaaDoor
namespace Go.Proofs.YtlhidbbphngpcaaDoor
set_option linter.unusedVariables false
set_option linter.unusedSimpArgs false
open Go.ChangeShapes Go.WideShapes Go.ChangeAt Go.RowKit

theorem own_lit1 (w : World) (B sz : Nat) (e : TypeId) (l : List Value) (hB : B ≤ w.heap.size) (hl : l.length = sz) :
    (w.alloc (.cells l.toArray e)).ownsRow B e sz (.slice (some ⟨w.heap.size, 0, none⟩) 1 1) 1 l :=
  ⟨by rw [Nat.one_mul]; exact hl, .inr ⟨w.heap.size, 1, l.toArray, rfl, hB, heap_alloc_new w _, Nat.le_refl _, by unfold maxLen; omega, by simp [hl], by rw [Nat.one_mul, ← hl]; simp⟩⟩
theorem bnds_take (ns : List Nod) (k : Nat) (h : k < ns.length) : bnds (ns.take (k + 1)) = bnds (ns.take k) ++ (if ns[k].lf = true then [] else [ns[k].bd]) := by
  rw [take_snoc ns k h, bnds_app]
  congr 1
  unfold bnds
  cases e : ns[k].lf <;> simp [e]
def cutP (C : List Int) (F : Int → Int) : List Pc := ⟨0, F minI⟩ :: (C.filter fun x => x != minI).map fun x => ⟨x, F x⟩
theorem cutP_all (ns : List Nod) (F : Int → Int) : cutP (srtC (bnds ns)) F = pcsOf ns F := rfl
theorem cutP_take (C : List Int) (F : Int → Int) (k : Nat) (h : k < C.length) : cutP (C.take (k + 1)) F = cutP (C.take k) F ++ (if C[k] = minI then [] else [⟨C[k], F C[k]⟩]) := by
  unfold cutP
  rw [take_snoc C k h, List.filter_append, List.map_append, List.cons_append]
  congr 2
  by_cases e : C[k] = minI
  · rw [if_pos e]; simp [e]
  · rw [if_neg e]; simp [e]
theorem cutP_len (C : List Int) (F : Int → Int) : (cutP C F).length ≤ C.length + 1 := by
  unfold cutP
  have := List.length_filter_le (fun x => x != minI) C
  simp
  omega
theorem bnds_len (ns : List Nod) : (bnds ns).length ≤ ns.length := by
  have := nod_count ns; omega
theorem elemEnc {w : World} {aa : Option Addr} {n ca : Nat} {xs : List Int} (h : SlAt w 1 (fun cs x => cs = encI x) (.slice aa n ca) xs) (k : Nat) (hk : k < xs.length) :
    ∃ b off, aa = some ⟨b, off, none⟩ ∧ b < w.heap.size ∧ w.cell? ⟨b, off + k, none⟩ = some (.int .i64 xs[k]) := by
  rcases h with ⟨a, cap, hv, rfl⟩ | ⟨b, off, cap, hv, h0, h1, h2, h3, h4⟩
  · simp at hk
  · simp only [Value.slice.injEq] at hv
    obtain ⟨cs, c1, c2, c3⟩ := h4 k hk
    have := c3 0 (by omega)
    rw [c2] at this
    exact ⟨b, off, hv.1, h3, by simpa [encI] using this⟩
set_option maxRecDepth 100000 in
set_option maxHeartbeats 4000000 in
theorem pieces_any (f : Frs) (F : Int → Int) (hT : Tells f F) (vn va : Value) (w : World) (hf : FrsAt w vn va f) :
    Calls Tryd.prog 40 #[.agg #[vn, va]] w fun e w' => ∃ v', e = .returned v' ∧ w'.ownsRow w.heap.size 116 2 v' (pcsOf f.nodes F).length ((pcsOf f.nodes F).flatMap encP) ∧ Below w.heap.size w w' := by
  obtain ⟨h0, h8, h2, h3, h4⟩ := frs_good hT.ok
  have HL : Hid (∀ (t : Int) (W : World), Below w.heap.size w W → Calls Tryd.prog 59 #[.agg #[vn, va], .int .i64 t] W fun e w' => e = .returned (.int .i64 (F t)) ∧ Below W.heap.size W w') :=
    fun t W hb => leaf_any f vn va t (f.nodes.length - 1) (F t) f.answers.length h4 (by omega) (hT.lf t) W (hf.mono hb)
  obtain ⟨an, cn, rfl, ln⟩ := hf.1.shape
  obtain ⟨aa, ca, rfl, la⟩ := hf.2.shape
  obtain ⟨i0, hi, hz0, hz1, hz2⟩ := info_parts info_int
  obtain ⟨ip, hip, hzp0, hzp1, hzp2⟩ := info_parts info_pcZ
  have H8 := Lib.hid h8
  have HN0 := Lib.hid hf.1
  clear hT hf ln la h0 h2 h3 h4
  generalize f.answers.length = na at *
  generalize f.nodes = nodes at *
  go_enter Tryd.func40, Tryd.ntmps40
  go_wp2
  have b0 : (w.alloc (.cells #[.slice an nodes.length cn, .slice aa na ca] 64)).cell? ⟨w.heap.size, 0, none⟩ = some (.slice an nodes.length cn) := (World.cell?_alloc_at (w := w) _ _ w.heap.size 0 rfl).trans rfl
  have b1 : (w.alloc (.cells #[.slice an nodes.length cn, .slice aa na ca] 64)).cell? ⟨w.heap.size, 1, none⟩ = some (.slice aa na ca) := (World.cell?_alloc_at (w := w) _ _ w.heap.size 1 rfl).trans rfl
  have bz : w.heap.size < (w.alloc (.cells #[.slice an nodes.length cn, .slice aa na ca] 64)).heap.size := by simp
  have bw : Below w.heap.size w (w.alloc (.cells #[.slice an nodes.length cn, .slice aa na ca] 64)) := (Below.refl _ _).alloc (Nat.le_refl _) _
  generalize w.alloc (.cells #[.slice an nodes.length cn, .slice aa na ca] 64) = W1 at *
  have HN1 := Lib.hid (HN0.out.mono bw fun _ _ h => h)
  have HL1 : Hid (∀ (t : Int) (W : World), Below W1.heap.size W1 W → Calls Tryd.prog 59 #[.agg #[.slice an nodes.length cn, .slice aa na ca], .int .i64 t] W fun e w' => e = .returned (.int .i64 (F t)) ∧ Below W.heap.size W w') :=
    fun t W hb => HL.out t W (bw.trans (hb.mono (Nat.le_of_lt bz)))
  clear HN0 HL
  go_loopw [3, 12] (fun v t wr => ∃ k : Nat, k ≤ nodes.length ∧ t = .int .i64 k ∧ (∃ xs : List Int, Hid (xs = bnds (nodes.take k)) ∧ wr.ownsRow W1.heap.size 3 1 v xs.length (xs.flatMap encI)) ∧ Below W1.heap.size W1 wr) (fun _ t _ => (nodes.length - intOf t).toNat)
  case atStart => exact ⟨0, by omega, rfl, ⟨[], Lib.hid rfl, World.ownsRow_nil _ _ _ _⟩, Below.refl _ _⟩
  case round =>
    obtain ⟨k, hk, rfl, ⟨xs, hx, hown⟩, hbr⟩ := hrel
    have h8' := H8.out
    have hxl : xs.length ≤ k := by
      rw [hx.out]
      exact Nat.le_trans (bnds_len _) (by rw [List.length_take]; omega)
    by_cases hlt : k < nodes.length
    · obtain ⟨b, off, rfl, hbb, d0, d1, d2, d3, d4⟩ := elemNod HN1.out k hlt
      have hT1 := Lib.hid (bnds_take nodes k hlt)
      have c0 := (hbr.cell (p := ⟨b, off + k * 5, none⟩) hbb).trans d0
      have c1 := (hbr.cell (p := ⟨b, off + k * 5 + 1, none⟩) hbb).trans d1
      have c2 := (hbr.cell (p := ⟨b, off + k * 5 + 2, none⟩) hbb).trans d2
      have c3 := (hbr.cell (p := ⟨b, off + k * 5 + 3, none⟩) hbb).trans d3
      have c4 := (hbr.cell (p := ⟨b, off + k * 5 + 4, none⟩) hbb).trans d4
      clear d0 d1 d2 d3 d4
      generalize nodes[k] = y at *
      have hsz := hbr.size
      cases e : y.lf
      · rw [e] at c0
        have HX : Hid (xs ++ [y.bd] = bnds (nodes.take (k + 1))) := by
          show _ = _
          rw [hT1.out, ← hx.out, e]; rfl
        clear e hT1
        go_wp2_with (at_builtin; refine wpList_append_own _ rfl _ _ 32 rfl W1.heap.size 3 i0 (.int .i64 0) 1 8 Tryd.underlying32 hi hz0 hz1 hz2 rfl (by decide) _ _ _ rfl ((hown.alloc _).alloc _) ⟨wr.heap.size + 1, 0, none⟩ 1 1 (encI y.bd) rfl rfl (cells_at _ _ _ _ _ (size_alloc _ _).symm rfl) (by intro u hu; simp [encI] at hu; subst hu; rfl) (by unfold maxLen; omega) (by omega) (by rw [size_alloc, size_alloc]; omega) ?_; intro v' w1 hown' hgrow _)
        have hB : Below W1.heap.size W1 w1 := (hbr.trans (below_alloc2 hsz _ _)).grown hgrow (by rw [size_alloc, size_alloc]; omega) (fun g hg => (hown.lt g hg).1)
        have HO := own_snoc hown'
        clear hown' hgrow
        go_wp2
        go_roundw
        case rel => exact ⟨k + 1, by omega, by go_num, ⟨xs ++ [y.bd], HX, HO⟩, hB⟩
        case measure => simp [intOf]; omega
      · rw [e] at c0
        have HX : Hid (xs = bnds (nodes.take (k + 1))) := by
          show _ = _
          rw [hT1.out, ← hx.out, e]; simp
        clear e hT1
        go_wp2
        go_roundw
        case rel => exact ⟨k + 1, by omega, by go_num, ⟨xs, HX, hown.alloc _⟩, hbr.alloc hsz _⟩
        case measure => simp [intOf]; omega
    · have hkx : k = nodes.length := by omega
      have HX : Hid (xs = bnds nodes) := by
        show _ = _
        rw [hx.out, hkx, List.take_of_length_le (Nat.le_refl _)]
      have hxl' : xs.length ≤ 8000 := by rw [HX.out]; exact Nat.le_trans (bnds_len _) h8'
      have HXL := Lib.hid hxl'
      clear hx hxl hxl' hkx
      go_wp2_with fail
      clear hlt
      refine (sort_own _ xs W1.heap.size wr hown (by have := HXL.out; omega)).mono ?_; rintro e w2 ⟨rfl, hown2, hg2⟩
      have hb2 : Below W1.heap.size W1 w2 := hbr.grown hg2 hbr.size (fun g hg => (hown.lt g hg).1)
      clear hbr hown hg2
      go_wp2_with fail
      refine (compact_own _ (srt xs) W1.heap.size w2 hown2).mono ?_; rintro e w3 ⟨v3, rfl, hown3, hg3, -⟩
      have hb3 : Below W1.heap.size W1 w3 := hb2.grown hg3 hb2.size (fun g hg => (hown2.lt g hg).1)
      clear hb2 hown2 hg3
      have HC : Hid (srtC (bnds nodes) = Lib.compact (srt xs)) := by rw [HX.out]; exact rfl
      obtain ⟨C, hC⟩ : ∃ C, C = Lib.compact (srt xs) := ⟨_, rfl⟩
      rw [← hC] at HC hown3
      have HCL : C.length ≤ 8000 := by
        rw [hC]
        refine Nat.le_trans (compact_le _) ?_
        rw [srt_len]; exact HXL.out
      have H83 := Lib.hid HCL
      clear hC HX HXL HCL
      obtain ⟨a3, k3, rfl⟩ := own_shape hown3
      have x0 := (hb3.cell (p := ⟨w.heap.size, 0, none⟩) bz).trans b0
      have x1 := (hb3.cell (p := ⟨w.heap.size, 1, none⟩) bz).trans b1
      go_wp2_with fail
      refine (HL1.out _ _ hb3).mono ?_; rintro e w4 ⟨rfl, hb4⟩
      have hb34 := hb3.trans (hb4.mono hb3.size)
      have hown4 := ownsRow_below hown3 hb4 (Nat.le_refl _)
      have hz4 : W1.heap.size ≤ w4.heap.size := hb34.size
      clear x0 x1 hb3 hb4 hown3
      go_wp2_with fail
      have hOP : (w4.alloc (.cells #[.int .i64 0, .int .i64 (F (-9223372036854775808))] 116)).ownsRow W1.heap.size 116 2 (.slice (some ⟨w4.heap.size, 0, none⟩) 1 1) (cutP (C.take 0) F).length ((cutP (C.take 0) F).flatMap encP) :=
        own_lit1 w4 W1.heap.size 2 116 (encP ⟨0, F minI⟩) hz4 rfl
      have hA4 : Below W1.heap.size W1 (w4.alloc (.cells #[.int .i64 0, .int .i64 (F (-9223372036854775808))] 116)) := hb34.alloc hz4 _
      have hO4 := hown4.alloc (.cells #[.int .i64 0, .int .i64 (F (-9223372036854775808))] 116)
      clear hown4 hb34 hz4
      generalize w4.alloc (.cells #[.int .i64 0, .int .i64 (F (-9223372036854775808))] 116) = w5 at *
      go_loopw [6, 35] (fun v t wr => ∃ k : Nat, k ≤ C.length ∧ t = .int .i64 (k : Int) ∧ Hid (wr.ownsRow W1.heap.size 116 2 v (cutP (C.take k) F).length ((cutP (C.take k) F).flatMap encP)) ∧ Hid (wr.ownsRow W1.heap.size 3 1 (.slice a3 C.length k3) C.length (C.flatMap encI)) ∧ Below W1.heap.size W1 wr) (fun _ t _ => (C.length - intOf t).toNat)
      case atStart => exact ⟨0, by omega, rfl, Lib.hid hOP, Lib.hid hO4, hA4⟩
      case round =>
        clear hOP hA4 hO4
        obtain ⟨q, hq, rfl, hop, hoc, hbr⟩ := hrel
        have h83 := H83.out
        obtain ⟨a6, k6, rfl⟩ := own_shape hop.out
        by_cases hlt : q < C.length
        · have hS : SlAt wr 1 (fun cs x => cs = encI x) (.slice a3 C.length k3) C := slAt_of_own (by omega) (fun _ => rfl) (fun _ _ => rfl) hoc.out
          obtain ⟨b, off, rfl, hbb, d0⟩ := elemEnc hS q hlt
          have hT1 := Lib.hid (cutP_take C F q hlt)
          have hPL := cutP_len (C.take q) F
          rw [List.length_take] at hPL
          have hsz := hbr.size
          have x0 := (hbr.cell (p := ⟨w.heap.size, 0, none⟩) bz).trans b0
          have x1 := (hbr.cell (p := ⟨w.heap.size, 1, none⟩) bz).trans b1
          clear hS
          generalize C[q] = x at *
          by_cases hx : x = minI
          · have hx1 : x = -9223372036854775808 := hx
            have HT2 : Hid (cutP (C.take (q + 1)) F = cutP (C.take q) F) := by
              show _ = _
              rw [hT1.out, if_pos hx, List.append_nil]
            have hop2 : Hid (wr.ownsRow W1.heap.size 116 2 (.slice a6 (cutP (C.take q) F).length k6) (cutP (C.take (q + 1)) F).length ((cutP (C.take (q + 1)) F).flatMap encP)) := by
              show World.ownsRow _ _ _ _ _ _ _
              rw [HT2.out]; exact hop.out
            have hb1 : (x != -9223372036854775808) = false := by rw [hx1]; rfl
            clear hx hx1 hT1 HT2 hPL x0 x1
            generalize (cutP (C.take q) F).length = np at *
            go_wp2_with fail
            go_roundw
            case rel => exact ⟨q + 1, by omega, by go_num, hop2, hoc, hbr⟩
            case measure => simp [intOf]; omega
          · have hb1 : (x != -9223372036854775808) = true := by rw [bne_iff_ne]; exact hx
            have HT2 : Hid (cutP (C.take (q + 1)) F = cutP (C.take q) F ++ [⟨x, F x⟩]) := by
              show _ = _
              rw [hT1.out, if_neg hx]
            clear hx hT1
            generalize cutP (C.take q) F = P at *
            go_wp2_with fail
            refine (HL1.out _ _ hbr).mono ?_; rintro e w6 ⟨rfl, hb6⟩
            have hb7 := hbr.trans (hb6.mono hbr.size)
            have hop6 := ownsRow_below hop.out hb6 (Nat.le_refl _)
            have hoc6 := ownsRow_below hoc.out hb6 (Nat.le_refl _)
            have hz6 : W1.heap.size ≤ w6.heap.size := hb7.size
            have hPL2 : P.length ≤ 8001 := by omega
            clear hb6 hbr x0 x1 d0 hPL
            go_wp2_with (at_builtin; refine wpList_append_own _ rfl _ _ 81 rfl W1.heap.size 116 ip (.agg #[.int .i64 0, .int .i64 0]) 2 16 Tryd.underlying81 hip hzp0 hzp1 hzp2 rfl (by decide) _ _ _ rfl (hop6.alloc _) ⟨w6.heap.size, 0, none⟩ 1 1 (encP ⟨x, F x⟩) rfl rfl (cells_at _ _ _ _ _ rfl rfl) (encP_one _) (by unfold maxLen; omega) (by omega) (by rw [size_alloc]; omega) ?_; intro v' w7 hown' hgrow _)
            have hB : Below W1.heap.size W1 w7 := (hb7.alloc hz6 _).grown hgrow (by rw [size_alloc]; omega) (fun g hg => (hop6.lt g hg).1)
            have HOP : Hid (w7.ownsRow W1.heap.size 116 2 v' (cutP (C.take (q + 1)) F).length ((cutP (C.take (q + 1)) F).flatMap encP)) := by
              show World.ownsRow _ _ _ _ _ _ _
              rw [HT2.out]; exact own_snocG hown'
            have HOC := Lib.hid ((hoc6.alloc _).kept hgrow (own_apart hoc6 hop6 (by decide)))
            clear hown' hgrow hop6 hoc6 hb7
            go_wp2
            go_roundw
            case rel => exact ⟨q + 1, by omega, by go_num, HOP, HOC, hB⟩
            case measure => simp [intOf]; omega
        · have hqx : q = C.length := by omega
          have HF : Hid (cutP (C.take q) F = pcsOf nodes F) := by
            show _ = _
            rw [hqx, List.take_of_length_le (Nat.le_refl _), ← HC.out]
            exact cutP_all nodes F
          rw [HF.out] at hop
          rw [HF.out]
          clear HF hqx
          go_wp2_with fail
          go_ret
          exact ⟨_, rfl, ownsRow_base (Nat.le_of_lt bz) hop.out, bw.trans (hbr.mono (Nat.le_of_lt bz))⟩
end Go.Proofs.YtlhidbbphngpcaaDoor
namespace Go.Proofs.YtlhidbbphngpcaaDoor
set_option linter.unusedVariables false
set_option linter.unusedSimpArgs false
open Go.ChangeShapes Go.WideShapes Go.ChangeAt Go.RowKit

theorem slAt_take {α : Type} {w : World} {sz b off n cap : Nat} {R : List Value → α → Prop} {xs : List α} (h : SlAt w sz R (.slice (some ⟨b, off, none⟩) n cap) xs) (k : Nat) (hk : k ≤ xs.length) : SlAt w sz R (.slice (some ⟨b, off, none⟩) k cap) (xs.take k) := by
  by_cases h0 : k = 0
  · subst h0; exact .inl ⟨_, _, rfl, by simp⟩
  · rcases h with ⟨a, c, hv, rfl⟩ | ⟨b', off', c, hv, h1, h2, h3, h4, h5⟩
    · simp at hk; omega
    · injection hv with e1 e2 e3
      injection e1 with e1
      injection e1 with e1 e4
      subst e1 e4 e3
      refine .inr ⟨b, off, cap, by rw [List.length_take]; congr 1; omega, by rw [List.length_take]; omega, by rw [List.length_take]; omega, h3, h4, fun i hi => ?_⟩
      rw [List.length_take] at hi
      obtain ⟨cs, c1, c2, c3⟩ := h5 i (by omega)
      exact ⟨cs, c1, by rw [List.getElem_take]; exact c2, c3⟩
theorem slAt_drop {α : Type} {w : World} {sz b off n cap : Nat} {R : List Value → α → Prop} {xs : List α} (h : SlAt w sz R (.slice (some ⟨b, off, none⟩) n cap) xs) (k : Nat) (hk : k < xs.length) : SlAt w sz R (.slice (some ⟨b, off + k * sz, none⟩) (xs.length - k) (cap - k)) (xs.drop k) := by
  rcases h with ⟨a, c, hv, rfl⟩ | ⟨b', off', c, hv, h1, h2, h3, h4, h5⟩
  · simp at hk
  · injection hv with e1 e2 e3
    injection e1 with e1
    injection e1 with e1 e4
    subst e1 e4 e3
    refine .inr ⟨b, off + k * sz, cap - k, by rw [List.length_drop], by rw [List.length_drop]; omega, by rw [List.length_drop]; omega, by omega, h4, fun i hi => ?_⟩
    rw [List.length_drop] at hi
    obtain ⟨cs, c1, c2, c3⟩ := h5 (k + i) (by omega)
    refine ⟨cs, c1, by rw [List.getElem_drop]; exact c2, fun j hj => ?_⟩
    have := c3 j hj
    rw [Nat.add_mul] at this
    rw [show off + k * sz + i * sz + j = off + (k * sz + i * sz) + j by omega]
    exact this
set_option maxRecDepth 100000 in
set_option maxHeartbeats 4000000 in
theorem balanced_any (B : Nat) (w0 : World) : ∀ (N : Nat) (l : List Pc) (ns : List Nod) (v nv : Value) (w : World), 0 < l.length → l.length ≤ N → (∀ W', Below B w0 W' → SlAt W' 2 RPc v l) → Below B w0 w → B ≤ w0.heap.size →
    w.ownsRow B 90 5 nv ns.length (ns.flatMap encN) → ns.length + 2 * l.length ≤ 20000 →
    Calls Tryd.prog 42 #[v, nv] w fun e w' => ∃ nv', e = .returned (.tuple #[nv', .int .i64 (((ns ++ balF N l ns.length).length - 1 : Nat) : Int)]) ∧ w'.ownsRow B 90 5 nv' (ns ++ balF N l ns.length).length ((ns ++ balF N l ns.length).flatMap encN) ∧ Below B w0 w'
  | 0, l, ns, v, nv, w, h0, h1, _, _, _, _, _ => by omega
  | N + 1, l, ns, v, nv, w, h0, h1, hv, hb, hB0, hown, hn => by
    have hB : B ≤ w.heap.size := Nat.le_trans hB0 hb.size
    obtain ⟨i0, hi, hz0, hz1, hz2⟩ := info_parts info_node
    obtain ⟨a, cap, rfl, hm⟩ := (hv w hb).shape
    obtain ⟨b, off, rfl, hbb, d0, d1⟩ := elemPc (hv w hb) 0 h0
    obtain ⟨an, cn, rfl⟩ := own_shape hown
    have HV := Lib.hid hv
    have HO := Lib.hid hown
    by_cases hone : l.length ≤ 1
    · have hl1 : l.length = 1 := by omega
      have HE : Hid (ns ++ balF (N + 1) l ns.length = ns ++ [leafN l[0].an]) := by
        show _ = _
        rw [balF_one hone, anAt_eq h0]
      have hl1' : (l.length : Int) = 1 := by omega
      generalize l[0] = x at *
      rw [hl1]
      clear hv hone h1 hl1 hl1' hm hown
      go_enter Tryd.func42, Tryd.ntmps42
      go_wp2_with (at_builtin; refine wpList_append_own _ rfl _ _ 62 rfl B 90 i0 (.agg #[.bool false, .int .i64 0, .int .i64 0, .int .i64 0, .int .i64 0]) 5 40 Tryd.underlying62 hi hz0 hz1 hz2 rfl (by decide) _ _ _ rfl (HO.out.alloc _) ⟨w.heap.size, 0, none⟩ 1 1 (encN (leafN x.an)) rfl rfl (cells_at _ _ _ _ _ rfl rfl) (encN_one _) (by unfold maxLen; omega) (by omega) (by rw [size_alloc]; omega) ?_; intro v' w7 hown' hgrow _; obtain ⟨a7, c7, rfl⟩ := own_shape hown')
      have hB7 : Below B w0 w7 := (hb.alloc hB _).grown hgrow (by rw [size_alloc]; omega) (fun g hg => (HO.out.lt g hg).1)
      have HO7 : Hid (w7.ownsRow B 90 5 (.slice a7 (ns.length + 1) c7) (ns ++ balF (N + 1) l ns.length).length ((ns ++ balF (N + 1) l ns.length).flatMap encN)) := by
        show World.ownsRow _ _ _ _ _ _ _
        rw [HE.out]; exact own_snocG hown'
      have HL : Hid (((ns ++ balF (N + 1) l ns.length).length - 1 : Nat) = ns.length) := by
        show _ = _
        rw [HE.out]; simp
      clear hown' hgrow hb hB HO HE HV
      rw [HL.out]
      go_wp2
      go_ret2
      exact ⟨_, rfl, HO7.out, hB7⟩
    · obtain ⟨k, hk⟩ : ∃ k, k = l.length / 2 := ⟨_, rfl⟩
      have hk1 : 0 < k := by omega
      have hk2 : k < l.length := by omega
      have hcap : l.length ≤ cap := by
        rcases hv w hb with ⟨_, _, _, e⟩ | ⟨_, _, c, e, _, h, _⟩
        · rw [e] at h0; simp at h0
        · injection e with _ _ e; omega
      have hcm : cap ≤ 9223372036854775807 := by
        rcases hv w hb with ⟨_, _, _, e⟩ | ⟨_, _, c, e, _, _, h, _⟩
        · rw [e] at h0; simp at h0
        · injection e with _ _ e; unfold maxLen at h; omega
      have hT : Hid (∀ W', Below B w0 W' → SlAt W' 2 RPc (.slice (some ⟨b, off, none⟩) k cap) (l.take k)) := Lib.hid fun W' h => slAt_take (hv W' h) k (by omega)
      have hD : Hid (∀ W', Below B w0 W' → SlAt W' 2 RPc (.slice (some ⟨b, off + k * 2, none⟩) (l.length - k) (cap - k)) (l.drop k)) := Lib.hid fun W' h => slAt_drop (hv W' h) k (by omega)
      have hE : Hid (∀ W', Below B w0 W' → W'.cell? ⟨b, off + k * 2, none⟩ = some (.int .i64 l[k].fr)) := Lib.hid fun W' h => by
        obtain ⟨b', off', e1, _, e2, _⟩ := elemPc (hv W' h) k hk2
        injection e1 with e1
        injection e1 with e1 e3
        subst e1 e3
        exact e2
      have hF := Lib.hid (balF_two (F := N) (b := ns.length) hone)
      rw [← hk] at hF
      have htl : (l.take k).length = k := by rw [List.length_take]; omega
      have hdl : (l.drop k).length = l.length - k := by rw [List.length_drop]
      have hAl : (balF N (l.take k) ns.length).length = 2 * k - 1 := by rw [balF_len N _ _ (by omega) (by omega), htl]
      have hBl : (balF N (l.drop k) (ns.length + (2 * k - 1))).length = 2 * (l.length - k) - 1 := by rw [balF_len N _ _ (by omega) (by omega), hdl]
      obtain ⟨A, hA⟩ : ∃ A, A = balF N (l.take k) ns.length := ⟨_, rfl⟩
      have hA2 : (ns ++ A).length = ns.length + (2 * k - 1) := by rw [List.length_append, hA, hAl]
      obtain ⟨C, hC⟩ : ∃ C, C = balF N (l.drop k) (ns ++ A).length := ⟨_, rfl⟩
      have hC2 : (ns ++ A ++ C).length = ns.length + (2 * l.length - 2) := by rw [List.length_append, hC, hA2, hBl]; omega
      have IH1 := Lib.hid (balanced_any B w0 N (l.take k) ns (.slice (some ⟨b, off, none⟩) k cap) (.slice an ns.length cn) w (by omega) (by omega) hT.out hb hB0 hown (by omega))
      have IH2 : Hid (∀ (nv : Value) (W : World), Below B w0 W → W.ownsRow B 90 5 nv (ns ++ A).length ((ns ++ A).flatMap encN) →
          Calls Tryd.prog 42 #[.slice (some ⟨b, off + k * 2, none⟩) (l.length - k) (cap - k), nv] W fun e w' => ∃ nv', e = .returned (.tuple #[nv', .int .i64 (((ns ++ A ++ C).length - 1 : Nat) : Int)]) ∧ w'.ownsRow B 90 5 nv' (ns ++ A ++ C).length ((ns ++ A ++ C).flatMap encN) ∧ Below B w0 w') :=
        Lib.hid fun nv W h1 h3 => by rw [hC]; exact balanced_any B w0 N (l.drop k) (ns ++ A) _ nv W (by omega) (by omega) hD.out h1 hB0 h3 (by rw [hA2]; omega)
      have HE : Hid (ns ++ balF (N + 1) l ns.length = (ns ++ A ++ C) ++ [askN l[k].fr (((ns ++ A).length - 1 : Nat) : Int) (((ns ++ A ++ C).length - 1 : Nat) : Int)]) := by
        show _ = _
        rw [hF.out, hC2, hC, hA2, hA, frAt_eq hk2]
        simp only [List.append_assoc]
      rw [← hA] at IH1
      obtain ⟨n1, hn1⟩ : ∃ n1, n1 = (ns ++ A).length := ⟨_, rfl⟩
      obtain ⟨n2, hn2⟩ : ∃ n2, n2 = (ns ++ A ++ C).length := ⟨_, rfl⟩
      have g1 : n1 ≤ 20000 := by omega
      have g2 : n2 ≤ 20000 := by omega
      have g3 : 1 ≤ n1 := by omega
      have g4 : 1 ≤ n2 := by omega
      rw [← hn1] at IH1 IH2 HE
      rw [← hn2] at IH2 HE
      have hcl : ns.length = ns.length := rfl
      have hne1 : ¬ (l.length : Int) = 1 := by omega
      have hq : (l.length : Int) / 2 = (k : Int) := by omega
      have hk3 : (k : Int) < (l.length : Int) := by omega
      have hk4 : (k : Int) ≤ (cap : Int) := by omega
      have hk5 : (l.length : Int) ≤ (cap : Int) := by omega
      have hk6 : ¬ cap = k := by omega
      have hl5 : (l.length : Int) ≤ 20000 := by omega
      clear hv HV hown d0 d1 hk hone h1 hm h0 hn hF hAl hBl htl hdl hA hC hA2 hC2 hcl HO hn1
      have HN2 := Lib.hid hn2
      clear hn2
      generalize l[k] = x at *
      go_enter Tryd.func42, Tryd.ntmps42
      go_wp2_with fail
      refine IH1.out.mono ?_; rintro e w1 ⟨nv1, rfl, hown1, hb1⟩
      obtain ⟨a1, c1, rfl⟩ := own_shape hown1
      go_wp2_with fail
      refine (IH2.out _ _ hb1 hown1).mono ?_; rintro e w2 ⟨nv2, rfl, hown2, hb2⟩
      obtain ⟨a2, c2, rfl⟩ := own_shape hown2
      have x2 := hE.out w2 hb2
      have hB2 : B ≤ w2.heap.size := Nat.le_trans hB0 hb2.size
      have HO2 := Lib.hid hown2
      clear hown1 hown2 hb1 hb hB
      go_wp2_with (at_builtin; refine wpList_append_own _ rfl _ _ 62 rfl B 90 i0 (.agg #[.bool false, .int .i64 0, .int .i64 0, .int .i64 0, .int .i64 0]) 5 40 Tryd.underlying62 hi hz0 hz1 hz2 rfl (by decide) (.slice a2 n2 c2) n2 ((ns ++ A ++ C).flatMap encN) rfl (HO2.out.alloc _) ⟨w2.heap.size, 0, none⟩ 1 1 (encN (askN x.fr ((n1 - 1 : Nat) : Int) ((n2 - 1 : Nat) : Int))) rfl rfl (cells_at _ _ _ _ _ rfl rfl) (encN_one _) (by unfold maxLen; omega) (by omega) (by rw [size_alloc]; omega) ?_; intro v' w7 hown' hgrow _; obtain ⟨a7, c7, rfl⟩ := own_shape hown')
      have hB7 : Below B w0 w7 := (hb2.alloc hB2 _).grown hgrow (by rw [size_alloc]; omega) (fun g hg => (HO2.out.lt g hg).1)
      have HX : Hid ((ns ++ balF (N + 1) l ns.length).length = n2 + 1) := by
        show _ = _
        rw [HE.out, List.length_append, ← HN2.out]; rfl
      have HO7 : Hid (w7.ownsRow B 90 5 (.slice a7 (n2 + 1) c7) (n2 + 1) ((ns ++ balF (N + 1) l ns.length).flatMap encN)) := by
        show World.ownsRow _ _ _ _ _ _ _
        rw [HE.out, List.flatMap_append]
        exact hown'
      rw [HX.out]
      clear hown' hgrow hb2 HO2 HE HX x2 HN2
      go_wp2
      go_ret2
      exact ⟨_, by rw [show n2 + 1 - 1 = n2 by omega]; rfl, HO7.out, hB7⟩
end Go.Proofs.YtlhidbbphngpcaaDoor
namespace Go.Proofs.YtlhidbbphngpcaaDoor
set_option linter.unusedVariables false
set_option linter.unusedSimpArgs false
open Go.ChangeShapes Go.WideShapes Go.ChangeAt Go.RowKit

def nV (n : Nod) : Value := .agg #[.bool n.lf, .int .i64 n.an, .int .i64 n.bd, .int .i64 n.ls, .int .i64 n.mr]
theorem nV_inj {n m : Nod} (h : nV n = nV m) : n = m := by
  obtain ⟨a, b, c, d, e⟩ := n
  obtain ⟨a', b', c', d', e'⟩ := m
  unfold nV at h
  simp at h
  obtain ⟨rfl, rfl, rfl, rfl, rfl⟩ := h
  rfl
theorem laidOutN : laidOutB Tryd.prog = true := by kernel_rfl
theorem nod_row : (90 : TypeId) < Tryd.prog.types.size := of_decide_eq_true (by kernel_rfl)
theorem pos_succ {k : Nat} (n : Nat) (h : k < n) : ∃ m, n = m + 1 := ⟨n - 1, by omega⟩
theorem nod_cells : Tryd.prog.cellsOf 90 = 5 := by kernel_rfl
theorem int_cells : Tryd.prog.cellsOf 3 = 1 := by kernel_rfl
theorem bool_cells : Tryd.prog.cellsOf 4 = 1 := by kernel_rfl
theorem nod_kt : Tryd.prog.keyType 90 = true := by kernel_rfl
theorem nlaw : Maps.Keyed Tryd.prog 90 := Maps.Keyed.of_law (deep_law_laid laidOutN (m := 2) (by omega) nod_row (by kernel_rfl) (by rw [Tryd.underlying90]))
theorem nod_key (n : Nod) (h : I64 n.an ∧ I64 n.bd ∧ I64 n.ls ∧ I64 n.mr) : ∃ l, keyOf Tryd.prog 90 (nV n) = some l := by
  obtain ⟨h1, h2, h3, h4⟩ := h
  unfold I64 at h1 h2 h3 h4
  have hb : ∀ d, Tryd.prog.keyLits (d + 1) 4 [.bool n.lf] = some [.bool n.lf] := fun d => by
    unfold Program.keyLits; rw [Tryd.underlying4]
  have hi : ∀ d x, (Lit.int .i64 x).wf = true → Tryd.prog.keyLits (d + 1) 3 [.int .i64 x] = some [.int .i64 x] := fun d x hx => by
    unfold Program.keyLits; rw [Tryd.underlying3]
    simp [hx]
  obtain ⟨sz, hsz⟩ := pos_succ _ nod_row
  have hk : ∃ ls, Tryd.prog.keyLits (Tryd.prog.types.size + 1) 90 (nV n).cells.toList = some ls := by
    rw [hsz]
    unfold Program.keyLits
    rw [Tryd.underlying90]
    unfold nV
    simp [Value.cells, nod_cells, int_cells, bool_cells, hb, hi, h1, h2, h3, h4]
  obtain ⟨ls, hls⟩ := hk
  unfold keyOf
  rw [Tryd.underlying90]
  dsimp only
  rw [nod_kt, hls]
  refine ⟨.string (keyBytes ls), ?_⟩
  rw [if_pos]
  · rfl
  · simp [Value.formed, Tryd.underlying90, nV, nod_cells]
def N64 (n : Nod) : Prop := I64 n.an ∧ I64 n.bd ∧ I64 n.ls ∧ I64 n.mr
noncomputable def kN (n : Nod) : Lit := (keyOf Tryd.prog 90 (nV n)).getD (.bool false)
theorem kN_eq {n : Nod} (h : N64 n) : keyOf Tryd.prog 90 (nV n) = some (kN n) := by
  obtain ⟨l, hl⟩ := nod_key n h
  unfold kN
  rw [hl]; rfl
attribute [irreducible] kN
theorem kN_inj {n m : Nod} (h : N64 n) (h' : N64 m) (e : kN n = kN m) : n = m := by
  have h1 := kN_eq h
  have h2 := kN_eq h'
  rw [← e] at h2
  generalize kN n = l at h1 h2
  exact nV_inj (Maps.Keyed.inj nlaw h1 h2)
theorem kN_key {n : Nod} (h : N64 n) : WideAt.IsKeyLit (kN n) := by
  have h1 := kN_eq h
  generalize kN n = l at h1
  exact Maps.Keyed.key nlaw h1
/-- the map of the nodes that are laid. -/
def ShM (D : DataW Unit) (out : List Nod) : Prop := Maps.IsMap D ∧ ∀ n, N64 n → (Maps.has D (kN n) = true ↔ n ∈ out) ∧ ∀ p : Nat, out[p]? = some n → (∀ q : Nat, q < p → out[q]? ≠ some n) → D.atKey (kN n) (dIZ 0) = dIZ p
theorem ShM.put {D : DataW Unit} {out : List Nod} (h : ShM D out) (h64 : ∀ n ∈ out, N64 n) {y : Nod} (hy : N64 y) (hn : y ∉ out) : ShM (D.put (kN y) (dIZ out.length)) (out ++ [y]) := by
  refine ⟨h.1.put _ _, fun c hc => ?_⟩
  by_cases e : c = y
  · subst e
    refine ⟨by rw [Maps.has_put_same h.1 (kN_key hc)]; simp, fun p hp hq => ?_⟩
    rw [Maps.atKey_put_same h.1 (kN_key hc)]
    have : p = out.length := by
      rcases Nat.lt_trichotomy p out.length with g | g | g
      · rw [List.getElem?_append_left g] at hp
        exact absurd (List.mem_of_getElem? hp) hn
      · exact g
      · rw [List.getElem?_eq_none (by simp; omega)] at hp; cases hp
    rw [this]
  · have hk : kN c ≠ kN y := fun e' => e (kN_inj hc hy e')
    obtain ⟨h1, h2⟩ := h.2 c hc
    refine ⟨by rw [Maps.has_put_other hk, h1]; simp [e], fun p hp hq => ?_⟩
    rw [Maps.atKey_put_other hk]
    have hp' : p < out.length := by
      rcases Nat.lt_trichotomy p out.length with g | g | g
      · exact g
      · subst g; simp at hp; exact absurd hp.symm e
      · rw [List.getElem?_eq_none (by simp; omega)] at hp; cases hp
    rw [List.getElem?_append_left hp'] at hp
    exact h2 p hp fun q hq' e' => hq q hq' (by rw [List.getElem?_append_left (by omega)]; exact e')
theorem ShM.zero : ShM (.map []) [] := ⟨⟨[], rfl⟩, fun n hn => ⟨by simp [Maps.has], fun p hp => by simp at hp⟩⟩
def MpN (w : World) (b n : Nat) (D : DataW Unit) : Prop := w.ownsMap Tryd.prog 90 (plainElem Tryd.prog 3) b n D
theorem MpN.block {w w' : World} {b n : Nat} {D : DataW Unit} (h : MpN w b n D) (hb : w'.heap[b]? = w.heap[b]?) : MpN w' b n D := by
  obtain ⟨es, clock, h1, h2⟩ := h
  exact ⟨es, clock, hb.trans h1, h2⟩
end Go.Proofs.YtlhidbbphngpcaaDoor
namespace Go.Proofs.YtlhidbbphngpcaaDoor
set_option linter.unusedVariables false
set_option linter.unusedSimpArgs false
open Go.ChangeShapes Go.WideShapes Go.ChangeAt Go.RowKit

def nowV (now : List Nat) (j : Nat) : Value := .int .i64 ((now.getD j 0 : Nat) : Int)
/-- the state of shared: H: the heap's size ahead; the map lies in block H, the places in block H + 1, the nodes' row from H + 2 on. -/
def ShS (w : World) (wr : World) (H n : Nat) (v : Value) (out : List Nod) (now : List Nat) : Prop :=
  wr.ownsRow (H + 2) 90 5 v out.length (out.flatMap encN) ∧ wr.rowIs (H + 1) 3 n (nowV now) ∧ (∃ D, MpN wr H out.length D ∧ ShM D out) ∧ Below H w wr ∧ H + 2 ≤ wr.heap.size
theorem ShS.new (w : World) (n : Nat) : ShS w ((w.alloc (.map #[] 0)).alloc (.cells (madeCells #[.int .i64 0] n) 3)) w.heap.size n (.slice none 0 0) [] [] := by
  have hs := size_alloc w (.map #[] 0)
  refine ⟨World.ownsRow_nil _ _ _ _, ?_, ?_, below_alloc2 (Nat.le_refl _) _ _, by rw [size_alloc, hs]; omega⟩
  · have := World.rowIs_made (w.alloc (.map #[] 0)) (.int .i64 0) n 3
    rw [hs] at this
    exact this.congr fun i hi => rfl
  · have hm := World.ownsMap_made (H := Unit) w Tryd.prog 90 (plainElem Tryd.prog 3)
    refine ⟨.map [], MpN.block hm ?_, ShM.zero⟩
    exact Below.heap_alloc _ _ _ (by rw [hs]; omega)
theorem ShS.alloc {w wr : World} {H n : Nat} {v : Value} {out : List Nod} {now : List Nat} (h : ShS w wr H n v out now) (o : Obj) : ShS w (wr.alloc o) H n v out now := by
  obtain ⟨h1, h2, ⟨D, h3, h4⟩, h5, h6⟩ := h
  exact ⟨h1.alloc _, h2.alloc _, ⟨D, h3.block (Below.heap_alloc _ _ _ (by omega)), h4⟩, h5.alloc (by omega) _, by rw [size_alloc]; omega⟩
theorem ShS.drw {w wr : World} {H n : Nat} {v : Value} {out : List Nod} {now : List Nat} (h : ShS w wr H n v out now) : ShS w wr.drew H n v out now := by
  obtain ⟨h1, h2, ⟨D, h3, h4⟩, h5, h6⟩ := h
  exact ⟨h1, h2, ⟨D, h3, h4⟩, h5.drew, h6⟩
/-- a cell of a box of its own. -/
theorem ShS.box {w wr : World} {H n N o : Nat} {v u : Value} {out : List Nod} {now : List Nat} (h : ShS w wr H n v out now) (hN : H + 2 ≤ N) (hne : v.ownBlock ≠ some N) : ShS w (wr.setCell ⟨N, o, none⟩ u) H n v out now := by
  obtain ⟨h1, h2, ⟨D, h3, h4⟩, h5, h6⟩ := h
  have k : ∀ c, c ≠ N → (wr.setCell ⟨N, o, none⟩ u).heap[c]? = wr.heap[c]? := fun c hc => Below.heap_setCell _ _ _ _ hc
  refine ⟨?_, h2.of_block (k _ (by omega)), ⟨D, h3.block (k _ (by omega)), h4⟩, h5.setCell (by show H ≤ N; omega) _, by rw [World.size_setCell]; exact h6⟩
  refine h1.kept (row := some N) ⟨rfl, rfl, rfl, by rw [World.size_setCell]; exact Nat.le_refl _, fun b _ hb => k b (fun e => hb (by rw [e]))⟩ (.inr hne)
/-- one more node in the row. -/
theorem ShS.push {w wr w7 : World} {H n : Nat} {v v' : Value} {o : Obj} {out : List Nod} {now : List Nat} {y : Nod} (h : ShS w wr H n v out now) (ho : w7.ownsRow (H + 2) 90 5 v' (out.length + 1) (out.flatMap encN ++ encN y)) (hg : (wr.alloc o).grownBy w7 v.ownBlock) :
    w7.ownsRow (H + 2) 90 5 v' (out ++ [y]).length ((out ++ [y]).flatMap encN) ∧ w7.rowIs (H + 1) 3 n (nowV now) ∧ (∀ m D, MpN wr H m D → MpN w7 H m D) ∧ Below H w w7 ∧ H + 2 ≤ w7.heap.size := by
  obtain ⟨h1, h2, h3, h5, h6⟩ := h
  have hs := size_alloc wr o
  have k : ∀ c, c < H + 2 → w7.heap[c]? = wr.heap[c]? := fun c hc =>
    (hg.block c (by omega) (fun e => by have := h1.lt c e.symm; omega)).trans (Below.heap_alloc _ _ _ (by omega))
  exact ⟨own_snocG ho, h2.of_block (k _ (by omega)), fun m D hm => hm.block (k _ (by omega)), (h5.alloc (by omega) _).grown hg (by omega) (fun g hg => by have := h1.lt g hg; omega), by have := hg.size; omega⟩
theorem ShS.mapd {w w7 w8 : World} {H n : Nat} {v' : Value} {out : List Nod} {now : List Nat} {D : DataW Unit} (h : w7.ownsRow (H + 2) 90 5 v' out.length (out.flatMap encN) ∧ w7.rowIs (H + 1) 3 n (nowV now) ∧ Below H w w7 ∧ H + 2 ≤ w7.heap.size)
    (hm : MpN w8 H out.length D) (hD : ShM D out) (hg : w7.grownBy w8 (some H)) : ShS w w8 H n v' out now := by
  obtain ⟨h1, h2, h5, h6⟩ := h
  refine ⟨h1.kept hg ?_, h2.of_block (hg.block _ (by omega) (by simp)), ⟨D, hm, hD⟩, h5.grown hg (by omega) (fun g hg => by cases hg; exact Nat.le_refl _), Nat.le_trans h6 hg.size⟩
  cases hv : v'.ownBlock with
  | none => exact .inl rfl
  | some g => right; intro e; injection e with e; have := h1.lt g hv; omega
theorem ShS.set {w wr : World} {H n k p : Nat} {v : Value} {out : List Nod} {now : List Nat} (h : ShS w wr H n v out now) (hk : now.length = k) (hn : k < n) : ShS w (wr.setCell ⟨H + 1, k, none⟩ (.int .i64 (p : Int))) H n v out (now ++ [p]) := by
  obtain ⟨h1, h2, ⟨D, h3, h4⟩, h5, h6⟩ := h
  have kk : ∀ c, c ≠ H + 1 → (wr.setCell ⟨H + 1, k, none⟩ (.int .i64 (p : Int))).heap[c]? = wr.heap[c]? := fun c hc => Below.heap_setCell _ _ _ _ hc
  refine ⟨ownsRow_setCell_below h1 (Nat.lt_succ_self _) _, (h2.set k _).congr fun i hi => ?_, ⟨D, h3.block (kk _ (by omega)), h4⟩, h5.setCell (by show H ≤ H + 1; omega) _, by rw [World.size_setCell]; exact h6⟩
  unfold nowV
  by_cases e : i = k
  · subst e
    rw [if_pos rfl, List.getD_eq_getElem?_getD, List.getElem?_append_right (by omega)]
    simp [hk]
  · rw [if_neg e]
    by_cases e2 : i < now.length
    · rw [getD_snoc e2]
    · rw [List.getD_eq_getElem?_getD, List.getD_eq_getElem?_getD, List.getElem?_eq_none (by omega), List.getElem?_eq_none (by simp; omega)]
/-- a node's box. -/
def NbB (wx : World) (N : Nat) (y : Nod) : Prop := (wx.cell? ⟨N, 0, none⟩ = some (.bool y.lf) ∧ wx.cell? ⟨N, 1, none⟩ = some (.int .i64 y.an) ∧ wx.cell? ⟨N, 2, none⟩ = some (.int .i64 y.bd) ∧ wx.cell? ⟨N, 3, none⟩ = some (.int .i64 y.ls) ∧ wx.cell? ⟨N, 4, none⟩ = some (.int .i64 y.mr)) ∧ (∀ j, wx.frozen? ⟨N, j, none⟩ = false) ∧ N < wx.heap.size
theorem NbB.new (w : World) (y : Nod) : NbB (w.alloc (.cells #[.bool y.lf, .int .i64 y.an, .int .i64 y.bd, .int .i64 y.ls, .int .i64 y.mr] 90)) w.heap.size y :=
  ⟨⟨World.cell?_alloc_at (w := w) _ _ w.heap.size 0 rfl, World.cell?_alloc_at (w := w) _ _ w.heap.size 1 rfl, World.cell?_alloc_at (w := w) _ _ w.heap.size 2 rfl, World.cell?_alloc_at (w := w) _ _ w.heap.size 3 rfl, World.cell?_alloc_at (w := w) _ _ w.heap.size 4 rfl⟩, fun j => World.frozen?_alloc_at (w := w) _ _ w.heap.size j rfl, by rw [size_alloc]; omega⟩
theorem NbB.grown {wx w' : World} {N : Nat} {y : Nod} {row : Option Nat} (h : NbB wx N y) (hg : wx.grownBy w' row) (hne : some N ≠ row) : NbB w' N y := by
  obtain ⟨⟨h0, h1, h2, h3, h4⟩, h5, h6⟩ := h
  have e := hg.block N h6 hne
  have c : ∀ j, w'.cell? ⟨N, j, none⟩ = wx.cell? ⟨N, j, none⟩ := fun j => World.cell?_of_block (a := ⟨N, j, none⟩) e
  exact ⟨⟨(c _).trans h0, (c _).trans h1, (c _).trans h2, (c _).trans h3, (c _).trans h4⟩, fun j => (World.frozen?_of_block (a := ⟨N, j, none⟩) e).trans (h5 j), Nat.lt_of_lt_of_le h6 hg.size⟩
theorem NbB.set34 {wx : World} {N : Nat} {y : Nod} (h : NbB wx N y) (a b : Int) : NbB ((wx.setCell ⟨N, 3, none⟩ (.int .i64 a)).setCell ⟨N, 4, none⟩ (.int .i64 b)) N ⟨y.lf, y.an, y.bd, a, b⟩ := by
  obtain ⟨⟨h0, h1, h2, h3, h4⟩, h5, h6⟩ := h
  refine ⟨⟨?_, ?_, ?_, ?_, ?_⟩, fun j => by rw [World.frozen?_setCell, World.frozen?_setCell]; exact h5 j, by rw [World.size_setCell, World.size_setCell]; exact h6⟩
  · rw [World.cell?_setCell_other (h := by simp), World.cell?_setCell_other (h := by simp)]; exact h0
  · rw [World.cell?_setCell_other (h := by simp), World.cell?_setCell_other (h := by simp)]; exact h1
  · rw [World.cell?_setCell_other (h := by simp), World.cell?_setCell_other (h := by simp)]; exact h2
  · rw [World.cell?_setCell_other (h := by simp)]; exact World.cell?_setCell_same (h := h3) ..
  · exact World.cell?_setCell_same (h := by rw [World.cell?_setCell_other (h := by simp)]; exact h4) ..
set_option maxRecDepth 100000 in
set_option maxHeartbeats 4000000 in
theorem shared_any (c : Int) (ns : List Nod) (v : Value) (w : World) (hv : SlAt w 5 RNod v ns) (ok : ∀ i (hi : i < ns.length), nodE c (i : Nat) ns[i] = 0) (h0 : 0 < ns.length) (h8 : ns.length ≤ 20000) :
    Calls Tryd.prog 44 #[v] w fun e w' => ∃ v' out now, e = .returned v' ∧ w'.ownsRow w.heap.size 90 5 v' out.length (out.flatMap encN) ∧ ShI ns ns.length out now ∧ (∀ n ∈ out, N64 n) ∧ Below w.heap.size w w' := by
  obtain ⟨av, cv, rfl, hm⟩ := hv.shape
  have hmk := run_make_row' (P := Tryd.prog) 32 3 (.int .i64 0) 8 Tryd.underlying32 info_int rfl .i64 .i64 ns.length (by omega) (by omega)
  have hmm := @run_makeMap Tryd.prog
  have hS0 := Lib.hid (ShS.new w ns.length)
  have HV := Lib.hid hv
  have HOK := Lib.hid ok
  have H8 := Lib.hid h8
  obtain ⟨it, hit, htz0, htz1, htz2⟩ := info_parts info_node
  clear hv ok hm h0
  go_enter Tryd.func44, Tryd.ntmps44
  go_wp2_with fail
  generalize (w.alloc (.map #[] 0)).alloc (.cells (madeCells #[.int .i64 0] ns.length) 3) = W1 at *
  go_loopw [3, 16] (fun vo t wr => ∃ (k : Nat) (out : List Nod) (now : List Nat), k ≤ ns.length ∧ t = .int .i64 (k : Int) ∧ Hid (ShS w wr w.heap.size ns.length vo out now) ∧ Hid (ShI ns k out now ∧ ∀ n ∈ out, N64 n) ∧ out.length ≤ k) (fun _ t _ => (ns.length - intOf t).toNat)
  case atStart => exact ⟨0, [], [], by omega, rfl, hS0, Lib.hid ⟨ShI.zero ns, fun n hn => by simp at hn⟩, Nat.le_refl _⟩
  case round =>
    obtain ⟨k, out, now, hk, rfl, hS, hI, hol⟩ := hrel
    obtain ⟨ao, co, rfl⟩ := own_shape hS.out.1
    by_cases hlt : k < ns.length
    · obtain ⟨b, off, rfl, hbb, d0, d1, d2, d3, d4⟩ := elemNod HV.out k hlt
      have hok := HOK.out k hlt
      have h64 := nods64 HV.out ns[k] (List.getElem_mem hlt)
      have HNEW : Hid (∀ p (hp : p < out.length), out[p] = renN now ns[k] → ShI ns (k + 1) out (now ++ [p])) := Lib.hid fun p hp e => hI.out.1.old HOK.out hlt hp e
      have HNEW2 : Hid ((∀ p (hp : p < out.length), out[p] ≠ renN now ns[k]) → ShI ns (k + 1) (out ++ [renN now ns[k]]) (now ++ [out.length])) := Lib.hid fun e => hI.out.1.new HOK.out hlt e
      have hbr := hS.out.2.2.2.1
      have c0 := (hbr.cell (p := ⟨b, off + k * 5, none⟩) hbb).trans d0
      have c1 := (hbr.cell (p := ⟨b, off + k * 5 + 1, none⟩) hbb).trans d1
      have c2 := (hbr.cell (p := ⟨b, off + k * 5 + 2, none⟩) hbb).trans d2
      have c3 := (hbr.cell (p := ⟨b, off + k * 5 + 3, none⟩) hbb).trans d3
      have c4 := (hbr.cell (p := ⟨b, off + k * 5 + 4, none⟩) hbb).trans d4
      have hlen := hI.out.1.len
      have hrow := hS.out.2.1
      have hH := hS.out.2.2.2.2
      have HLEN := Lib.hid hlen
      clear d0 d1 d2 d3 d4 hbr hmk hmm hlen
      generalize ns[k] = x at *
      have HS1 := Lib.hid (hS.out.alloc (.cells #[.bool x.lf, .int .i64 x.an, .int .i64 x.bd, .int .i64 x.ls, .int .i64 x.mr] 90))
      have HB1 := Lib.hid (NbB.new wr x)
      have hne : (Value.slice ao out.length co).ownBlock ≠ some wr.heap.size := fun e => by have := hS.out.1.lt _ e; omega
      have HNE := Lib.hid hne
      have HOK1 := Lib.hid hok
      have H64 := Lib.hid h64
      clear hne hrow hok h64 hS
      go_upto_if 23 with (fail)
      generalize wr.alloc (.cells #[.bool x.lf, .int .i64 x.an, .int .i64 x.bd, .int .i64 x.ls, .int .i64 x.mr] 90) = wa at *
      generalize wr.heap.size = N at *
      clear c0 c1 c2 c3 c4
      go_cut [] (fun wx => Hid (ShS w wx w.heap.size ns.length (.slice ao out.length co) out now) ∧ Hid (NbB wx N (renN now x)))
      case first =>
        cases e : x.lf
        · obtain ⟨_, e1, e2, e3, e4⟩ := nod_ask HOK1.out e
          obtain ⟨L, hL⟩ : ∃ L : Nat, x.ls = (L : Int) := ⟨x.ls.toNat, by omega⟩
          obtain ⟨R, hR⟩ : ∃ R : Nat, x.mr = (R : Int) := ⟨x.mr.toNat, by omega⟩
          have HE : Hid (renN now x = ⟨x.lf, x.an, x.bd, ((now.getD L 0 : Nat) : Int), ((now.getD R 0 : Nat) : Int)⟩) := by
            show _ = _
            rw [renN_ask e, hL, hR]; rfl
          obtain ⟨⟨b0, b1, b2, b3, b4⟩, bf, bz⟩ := HB1.out
          rw [hL] at b3
          rw [hR] at b4
          have rL := HS1.out.2.1.cell (i := L) (by omega)
          have rR := HS1.out.2.1.cell (i := R) (by omega)
          unfold nowV at rL rR
          have hLn : (L : Int) < (ns.length : Int) := by omega
          have hRn : (R : Int) < (ns.length : Int) := by omega
          have bf3 := bf 3
          have bf4 := bf 4
          have hNb : ¬ w.heap.size + 1 = N := by omega
          rw [e] at b0
          clear hL hR e1 e2 e3 e4 bf
          generalize now.getD L 0 = pL at *
          generalize now.getD R 0 = pR at *
          go_wp2_with fail
          have hHN : w.heap.size + 2 ≤ N := hH
          have HB2 : Hid (NbB ((wa.setCell ⟨N, 3, none⟩ (.int .i64 (pL : Int))).setCell ⟨N, 4, none⟩ (.int .i64 (pR : Int))).drew N (renN now x)) := by
            show NbB _ _ _
            rw [HE.out]; exact HB1.out.set34 _ _
          have HS2 := Lib.hid ((((HS1.out.box (o := 3) (u := .int .i64 (pL : Int)) hHN HNE.out)).box (o := 4) (u := .int .i64 (pR : Int)) hHN HNE.out).drw)
          go_region
          go_wp2_with fail
          go_meet
          exact ⟨HS2.out, HB2.out⟩
        · have HE : Hid (NbB wa N (renN now x)) := by
            show NbB _ _ _
            rw [renN_leaf e]; exact HB1.out
          obtain ⟨⟨b0, b1, b2, b3, b4⟩, -, -⟩ := HB1.out
          rw [e] at b0
          clear e
          go_wp2_with fail
          go_meet
          exact ⟨HS1.out, HE.out⟩
      case rest =>
        obtain ⟨HS2, HB2⟩ := hcut
        obtain ⟨_, _, ⟨D, hmD, hD⟩, _, hz2⟩ := HS2.out
        have y64 : N64 (renN now x) := by
          obtain ⟨q1, q2, q3, q4⟩ := H64.out
          have hx := HOK1.out
          have hpb : ∀ j, I64 ((now.getD j 0 : Nat) : Int) := fun j => i64_nat _ (by
            by_cases hj : j < now.length
            · rw [getD_at hj]
              obtain ⟨_, g1, g2, _⟩ := hI.out.1.img j (by rw [← HLEN.out]; exact hj)
              omega
            · rw [List.getD_eq_getElem?_getD, List.getElem?_eq_none (by omega)]; simp)
          cases e : x.lf
          · rw [renN_ask e]; exact ⟨q1, q2, hpb _, hpb _⟩
          · rw [renN_leaf e]; exact ⟨q1, q2, q3, q4⟩
        clear HS1 HB1 HOK1 H64
        generalize renN now x = y at *
        have HKK := Lib.hid (kN_eq y64)
        obtain ⟨hh1, hh2⟩ := hD.2 y y64
        obtain ⟨pb, hpb⟩ : ∃ pb, Maps.has D (kN y) = pb := ⟨_, rfl⟩
        rw [hpb] at hh1
        have HH1 := Lib.hid hh1
        have HH2 := Lib.hid hh2
        have HD := Lib.hid hD
        have HM := Lib.hid hmD
        have HPB := Lib.hid hpb
        have HY := Lib.hid y64
        obtain ⟨⟨b0, b1, b2, b3, b4⟩, bf, bz⟩ := HB2.out
        clear hD hmD hh1 hh2 hpb y64 hlt bf
        go_upto_if 43 with (at_lookup; (refine wpList_lookup_own_ok_int (H := Unit) _ rfl _ _ 121 rfl 90 3 .i64 nlaw Tryd.underlying121 Tryd.underlying3 (vzeroZ _) w.heap.size out.length D rfl HM.out (nV y) (kN y) rfl HKK.out ?_; intro c hat hwc; rw [HPB.out]; have HAT := Lib.hid hat; clear hat))
        go_cut [3, 8] (fun vo kk wx => ∃ (p : Nat) (out2 : List Nod) (a2 : Option Addr) (c2 : Nat), vo = .slice a2 out2.length c2 ∧ kk = .int .i64 (p : Int) ∧ Hid (ShS w wx w.heap.size ns.length (.slice a2 out2.length c2) out2 now) ∧ Hid (ShI ns (k + 1) out2 (now ++ [p]) ∧ ∀ n ∈ out2, N64 n) ∧ out2.length ≤ k + 1)
        case first =>
          cases pb with
          | true =>
            have hin : y ∈ out := HH1.out.1 rfl
            obtain ⟨i0, hi0, e0⟩ := List.mem_iff_getElem.1 hin
            obtain ⟨p, ⟨hp1, hp2⟩, -⟩ := least (p := fun q => out[q]? = some y) i0 (by rw [List.getElem?_eq_getElem hi0, e0])
            obtain ⟨hp, e1⟩ := List.getElem?_eq_some_iff.1 hp1
            obtain rfl : c = (p : Int) := dI_injZ ((HH2.out p hp1 hp2).symm.trans HAT.out)
            have HI2 : Hid (ShI ns (k + 1) out (now ++ [p]) ∧ ∀ n ∈ out, N64 n) := ⟨HNEW.out p hp e1, hI.out.2⟩
            clear hin e0 hp1 hp2 e1 hp
            go_wp2_with fail
            go_meet
            exact ⟨p, out, ao, co, rfl, rfl, HS2.out, HI2.out, by omega⟩
          | false =>
            have hout : y ∉ out := fun h => by have := HH1.out.2 h; cases this
            have HI2 : Hid (ShI ns (k + 1) (out ++ [y]) (now ++ [out.length]) ∧ ∀ n ∈ out ++ [y], N64 n) := by
              refine ⟨HNEW2.out fun p hp e => hout (by rw [← e]; exact List.getElem_mem hp), fun n hn => ?_⟩
              rcases List.mem_append.1 hn with h | h
              · exact hI.out.2 n h
              · rw [List.mem_singleton.1 h]; exact HY.out
            have HSM := Lib.hid (HD.out.put hI.out.2 HY.out hout)
            have HPA := Lib.hid (pelZ (out.length : Int) (i64_nat _ (by have := H8.out; omega)))
            have hol8 : out.length ≤ 20000 := by omega
            clear hout
            go_upto_region 13 with (at_builtin; (refine wpList_append_own _ rfl _ _ 62 rfl (w.heap.size + 2) 90 it (.agg #[.bool false, .int .i64 0, .int .i64 0, .int .i64 0, .int .i64 0]) 5 40 Tryd.underlying62 hit htz0 htz1 htz2 rfl (by decide) (.slice ao out.length co) out.length (out.flatMap encN) rfl (HS2.out.1.alloc _) ⟨wc.heap.size, 0, none⟩ 1 1 (encN y) rfl rfl (cells_at _ _ _ _ _ rfl rfl) (encN_one _) (by unfold maxLen; omega) (by omega) (by rw [size_alloc]; omega) ?_; intro v7 w7 hown' hgrow _; obtain ⟨a7, c7, rfl⟩ := own_shape hown'))
            have HP7 := Lib.hid (HS2.out.push hown' hgrow)
            have HB7 := Lib.hid ((HB2.out.grown (World.grownBy_alloc wc (.cells (encN y).toArray 90) none) (by simp)).grown hgrow (fun e => HNE.out e.symm))
            have HM7 := Lib.hid (HP7.out.2.2.1 _ _ HM.out)
            clear hown' hgrow b0 b1 b2 b3 b4 bz
            obtain ⟨⟨b0, b1, b2, b3, b4⟩, -, bz⟩ := HB7.out
            go_wp2_with (at_mapUpdate; (refine wpList_mapUpdate_own (H := Unit) _ rfl _ _ _ 121 rfl 90 3 nlaw Tryd.underlying121 (plainElem Tryd.prog 3) w.heap.size out.length D rfl HM7.out (by unfold maxLen; omega) (nV y) (.int .i64 (out.length : Int)) (kN y) rfl rfl HKK.out (dIZ out.length) [] HPA.out ?_; intro w8 hom hgm))
            go_meet
            refine ⟨out.length, out ++ [y], a7, c7, by rw [List.length_append]; rfl, rfl, ?_, HI2.out, by rw [List.length_append]; simp; omega⟩
            have h7 := HP7.out
            refine ShS.mapd ⟨?_, h7.2.1, h7.2.2.2⟩ (by rw [List.length_append]; exact hom) HSM.out hgm
            have := h7.1
            rw [List.length_append] at this ⊢
            exact this
        case rest =>
          obtain ⟨p, out2, a2, c2, rfl, rfl, HS3, HI3, hol3⟩ := hcut
          clear b0 b1 b2 b3 b4 bz hz2
          have hkl : k < ns.length := by have := HI3.out.1.le; omega
          have hki : (k : Int) < (ns.length : Int) := by omega
          have rk := HS3.out.2.1.cell (i := k) hkl
          have rf := HS3.out.2.1.frozen
          have rz := HS3.out.2.1.lt
          unfold nowV at rk
          have HS4 := Lib.hid (HS3.out.set (p := p) HLEN.out hkl)
          generalize now.getD k 0 = nk at *
          go_wp2_with fail
          go_roundw
          case rel => exact ⟨k + 1, out2, now ++ [p], by omega, by go_num, HS4, HI3, hol3⟩
          case measure => simp [intOf]; omega
    · have hkx : k = ns.length := by omega
      subst hkx
      go_wp2_with fail
      go_ret
      exact ⟨_, out, now, rfl, ownsRow_base (by omega) hS.out.1, hI.out.1, hI.out.2, hS.out.2.2.2.1⟩
end Go.Proofs.YtlhidbbphngpcaaDoor
namespace Go.Proofs.YtlhidbbphngpcaaDoor
set_option linter.unusedVariables false
set_option linter.unusedSimpArgs false
open Go.ChangeShapes Go.WideShapes Go.ChangeAt Go.RowKit

set_option maxHeartbeats 2000000 in
theorem equalX_any (va vb : Value) (xs ys : List Int) (w : World) (ha : SlAt w 1 RInt va xs) (hb : SlAt w 1 RInt vb ys) :
    Calls Tryd.prog 80 #[va, vb] w fun e w' => ∃ r, e = .returned (.bool r) ∧ (r = true ↔ xs = ys) ∧ ∃ n, w' = w.drewN n := by
  obtain ⟨aa, ca, rfl, la⟩ := ha.shape
  obtain ⟨ab, cb, rfl, lb⟩ := hb.shape
  have la' := maxLen_eq _ la
  have lb' := maxLen_eq _ lb
  have HA := Lib.hid ha
  have HB := Lib.hid hb
  clear ha hb la lb
  by_cases hl : xs.length = ys.length
  · obtain ⟨n, hn⟩ : ∃ n, n = ys.length := ⟨_, rfl⟩
    rw [hl, ← hn] at la' ⊢
    have HXN : Hid (xs.length = n) := by show _ = _; rw [hl, hn]
    have HYN : Hid (ys.length = n) := hn.symm
    rw [hl, ← hn] at HA
    rw [← hn] at HB
    clear hl hn lb'
    go_enter Tryd.func80, Tryd.ntmps80
    go_wp2_with fail
    go_loopw [13] (fun t wr => ∃ k : Nat, k ≤ n ∧ t = .int .i64 (k : Int) ∧ Hid (∀ i (hi : i < xs.length) (hj : i < ys.length), i < k → xs[i] = ys[i]) ∧ ∃ q, wr = w.drewN q) (fun t _ => (n - intOf t).toNat)
    case atStart => exact ⟨0, by omega, rfl, fun i _ _ h => by omega, 0, rfl⟩
    case round =>
      obtain ⟨k, hk, rfl, hall, q, rfl⟩ := hrel
      by_cases hlt : k < n
      · have hkx : k < xs.length := by rw [HXN.out]; exact hlt
        have hky : k < ys.length := by rw [HYN.out]; exact hlt
        obtain ⟨b1, o1, e1, z1, c1, _⟩ := elemInt HA.out k hkx
        obtain ⟨b2, o2, e2, z2, c2, _⟩ := elemInt HB.out k hky
        subst e1 e2
        have hkn : (k : Int) < (n : Int) := by omega
        have hne : Hid (xs[k] ≠ ys[k] → xs ≠ ys) := fun h e => by subst e; exact h rfl
        have heq : Hid (xs[k] = ys[k] → ∀ i (hi : i < xs.length) (hj : i < ys.length), i < k + 1 → xs[i] = ys[i]) := fun h i hi hj hik => by
          by_cases e : i = k
          · subst e; exact h
          · exact hall.out i hi hj (by omega)
        generalize xs[k] = x at *
        generalize ys[k] = y at *
        by_cases hxy : x = y
        · have HEQ := Lib.hid (heq.out hxy)
          subst hxy
          clear hne heq
          go_wp2_with fail
          go_quiet (fail)
          go_wp2_with fail
          go_roundw
          case rel => exact ⟨k + 1, by omega, by go_num, HEQ, _, rfl⟩
          case measure => simp [intOf]; omega
        · have hb : (x != y) = true := by simpa using hxy
          have HNE : Hid (xs ≠ ys) := hne.out hxy
          clear hne hxy heq
          go_wp2_with fail
          go_quiet (fail)
          go_wp2_with fail
          go_ret
          exact ⟨false, rfl, ⟨fun h => (by cases h), fun h => absurd h HNE.out⟩, q + nq, by simp [World.drewN, Nat.add_assoc]⟩
      · have HE : Hid (xs = ys) := by
          refine List.ext_getElem (by rw [HXN.out, HYN.out]) fun i h1 h2 => ?_
          have := HXN.out
          exact hall.out i h1 h2 (by omega)
        go_wp2_with fail
        go_ret
        exact ⟨true, rfl, ⟨fun _ => HE.out, fun _ => rfl⟩, _, rfl⟩
  · have HNE : Hid (xs ≠ ys) := fun e => hl (by rw [e])
    have hl' : ((xs.length : Int) != (ys.length : Int)) = true := by simp; omega
    have hl2 : ¬ (xs.length : Int) = (ys.length : Int) := by omega
    go_enter Tryd.func80, Tryd.ntmps80
    go_wp2
    go_ret
    exact ⟨false, rfl, ⟨fun h => (by cases h), fun h => absurd h HNE.out⟩, 0, rfl⟩
theorem ba_toListX {a b : ByteArray} (h : a.toList = b.toList) : a = b := Go.WideShapes.bytes_inj (by rw [← ByteArray.toList_eq, ← ByteArray.toList_eq]; exact h)
theorem eqA_no {a b : Ans} (h : ¬ a = b) : eqA a b = false := by
  cases e : eqA a b with
  | false => rfl
  | true => exact absurd ((eqA_iff a b).1 e) h
set_option maxRecDepth 100000 in
set_option maxHeartbeats 2000000 in
theorem same_any (a b : Ans) (vo vu : Value) (w : World) (hv : SlAt w 1 RInt vo a.offs) (hu : SlAt w 1 RInt vu b.offs) :
    Calls Tryd.prog 62 #[.agg #[.int .i64 a.ck.off, .bool a.ck.sav, .string a.ck.nm, vo, .int .i64 a.jump], .agg #[.int .i64 b.ck.off, .bool b.ck.sav, .string b.ck.nm, vu, .int .i64 b.jump]] w fun e w' => e = .returned (.bool (eqA a b)) ∧ Below w.heap.size w w' := by
  obtain ⟨r0, hr0⟩ : ∃ r, eqA a b = r := ⟨_, rfl⟩
  have hiff := eqA_iff a b
  rw [hr0] at hiff ⊢
  have HR := Lib.hid hiff
  clear hr0 hiff
  obtain ⟨⟨ao, sa, an⟩, af, aj⟩ := a
  obtain ⟨⟨bo, sb, bn⟩, bf, bj⟩ := b
  dsimp only at *
  have HE := Lib.hid (fun (W : World) (hb : Below w.heap.size w W) => equalX_any vo vu af bf W (hv.mono hb fun _ _ h => h) (hu.mono hb fun _ _ h => h))
  obtain ⟨aa, ca, rfl, -⟩ := hv.shape
  obtain ⟨ab, cb, rfl, -⟩ := hu.shape
  clear hv hu
  by_cases h : ao = bo ∧ sa = sb ∧ an.toList = bn.toList ∧ aj = bj
  · obtain ⟨rfl, rfl, h3, rfl⟩ := h
    obtain rfl := ba_toListX h3
    clear h3
    go_enter Tryd.func62, Tryd.ntmps62
    go_wp2_with fail
    refine (HE.out _ (below_alloc2 (Nat.le_refl _) _ _)).mono ?_; rintro e w1 ⟨r, rfl, hr, n, rfl⟩
    go_wp2
    go_ret
    refine ⟨ret_bool ?_, below_draws (below_alloc2 (Nat.le_refl _) _ _) n⟩
    rw [Bool.eq_iff_iff, hr, HR.out]
    exact ⟨fun h => by rw [h], fun h => by injection h⟩
  · have hne : r0 = false := by
      cases hx : r0 with
      | false => rfl
      | true => exact absurd (HR.out.1 hx) fun e => by injection e with e1 e2 e3; injection e1 with e4 e5 e6; exact h ⟨e4, e5, by rw [e6], e3⟩
    subst hne
    clear HE HR
    by_cases h1 : ao = bo
    · subst h1
      by_cases h2 : sa = sb
      · subst h2
        by_cases h3 : an.toList = bn.toList
        · have h4 : ¬ aj = bj := fun e => h ⟨rfl, rfl, h3, e⟩
          clear h
          go_enter Tryd.func62, Tryd.ntmps62
          go_wp2_with fail
          go_ret
          exact ⟨rfl, below_alloc2 (Nat.le_refl _) _ _⟩
        · clear h
          go_enter Tryd.func62, Tryd.ntmps62
          go_wp2_with fail
          go_ret
          exact ⟨rfl, below_alloc2 (Nat.le_refl _) _ _⟩
      · clear h
        go_enter Tryd.func62, Tryd.ntmps62
        go_wp2_with fail
        go_ret
        exact ⟨rfl, below_alloc2 (Nat.le_refl _) _ _⟩
    · clear h
      go_enter Tryd.func62, Tryd.ntmps62
      go_wp2_with fail
      go_ret
      exact ⟨rfl, below_alloc2 (Nat.le_refl _) _ _⟩
/-- a box that holds an answer. -/
def AnBx (W : World) (T : Nat) (A : Ans) (v : Value) : Prop := (W.cell? ⟨T, 0, none⟩ = some (.int .i64 A.ck.off) ∧ W.cell? ⟨T, 1, none⟩ = some (.bool A.ck.sav) ∧ W.cell? ⟨T, 2, none⟩ = some (.string A.ck.nm) ∧ W.cell? ⟨T, 3, none⟩ = some v ∧ W.cell? ⟨T, 4, none⟩ = some (.int .i64 A.jump)) ∧ T < W.heap.size
theorem AnBx.new (w : World) (A : Ans) (v : Value) : AnBx (w.alloc (.cells #[.int .i64 A.ck.off, .bool A.ck.sav, .string A.ck.nm, v, .int .i64 A.jump] 79)) w.heap.size A v :=
  ⟨⟨World.cell?_alloc_at (w := w) _ _ w.heap.size 0 rfl, World.cell?_alloc_at (w := w) _ _ w.heap.size 1 rfl, World.cell?_alloc_at (w := w) _ _ w.heap.size 2 rfl, World.cell?_alloc_at (w := w) _ _ w.heap.size 3 rfl, World.cell?_alloc_at (w := w) _ _ w.heap.size 4 rfl⟩, by rw [size_alloc]; omega⟩
theorem AnBx.block {W W' : World} {T : Nat} {A : Ans} {v : Value} (h : AnBx W T A v) (e : W'.heap[T]? = W.heap[T]?) (hz : T < W'.heap.size) : AnBx W' T A v := by
  obtain ⟨⟨h0, h1, h2, h3, h4⟩, _⟩ := h
  have c : ∀ j, W'.cell? ⟨T, j, none⟩ = W.cell? ⟨T, j, none⟩ := fun j => World.cell?_of_block (a := ⟨T, j, none⟩) e
  exact ⟨⟨(c _).trans h0, (c _).trans h1, (c _).trans h2, (c _).trans h3, (c _).trans h4⟩, hz⟩
theorem AnBx.below {W W' : World} {T B : Nat} {A : Ans} {v : Value} (h : AnBx W T A v) (hb : Below B W W') (hT : T < B) : AnBx W' T A v := h.block (hb.block T hT) (Nat.lt_of_lt_of_le h.2 hb.size)
set_option maxRecDepth 100000 in
set_option maxHeartbeats 2000000 in
theorem merged1_any (A b : Ans) (v vb : Value) (T : Nat) (w : World) (hT : AnBx w T A v) (hv : SlAt w 1 RInt v A.offs) (hu : SlAt w 1 RInt vb b.offs) :
    Calls Tryd.prog 61 #[.agg #[.int .i64 b.ck.off, .bool b.ck.sav, .string b.ck.nm, vb, .int .i64 b.jump], .pointer (some ⟨T, 0, none⟩)] w fun e w' => e = .returned (.bool (eqA A b)) ∧ Below w.heap.size w w' := by
  obtain ⟨⟨c0, c1, c2, c3, c4⟩, hz⟩ := hT
  have HE := Lib.hid (fun (W : World) (hb : Below w.heap.size w W) => same_any A b v vb W (hv.mono hb fun _ _ h => h) (hu.mono hb fun _ _ h => h))
  obtain ⟨aa, ca, rfl, -⟩ := hv.shape
  obtain ⟨ab, cb, rfl, -⟩ := hu.shape
  clear hv hu
  generalize eqA A b = r at *
  go_enter Tryd.func61, Tryd.ntmps61
  go_wp2_with fail
  refine (HE.out _ ((Below.refl _ _).alloc (Nat.le_refl _) _)).mono ?_; rintro e w1 ⟨rfl, hb⟩
  go_wp2
  go_ret
  exact ⟨rfl, below_in hb⟩
set_option maxRecDepth 100000 in
set_option maxHeartbeats 4000000 in
theorem idxMerged_any (A : Ans) (T : Nat) (v va : Value) (xs : List Ans) (w : World) (hT : AnBx w T A va) (ho : SlAt w 1 RInt va A.offs) (hv : SlAt w 5 (RAns w) v xs) :
    Calls Tryd.prog 60 #[v, .func (.func 61) #[] #[.pointer (some ⟨T, 0, none⟩)]] w fun e w' => e = .returned (.int .i64 (fidx (eqA A) xs)) ∧ Below w.heap.size w w' := by
  have eg := enters_of Tryd.func61 (by kernel_rfl) rfl
  obtain ⟨aa, ca, rfl, la⟩ := hv.shape
  have la' := maxLen_eq _ la
  have HV := Lib.hid hv
  have HT := Lib.hid hT
  have HO := Lib.hid ho
  clear hv hT la ho
  go_enter Tryd.func60, Tryd.ntmps60
  go_wp2
  go_loopw [8] (fun t wr => ∃ k : Nat, k ≤ xs.length ∧ t = .int .i64 (k : Int) ∧ Hid (∀ i (hi : i < xs.length), i < k → eqA A xs[i] = false) ∧ Hid (Below w.heap.size w wr)) (fun t _ => (xs.length - intOf t).toNat)
  case atStart => exact ⟨0, by omega, rfl, fun i _ h => by omega, Below.refl _ _⟩
  case round =>
    obtain ⟨k, hk, rfl, HN, HB⟩ := hrel
    by_cases hlt : k < xs.length
    · have hkn : (k : Int) < (xs.length : Int) := by omega
      have hX := HV.out.mono HB.out (RAns.mono HB.out)
      obtain ⟨b1, o1, vo, e1, z1, ⟨c0, c1, c2, c3, c4⟩, ho, hnm, i1, i2⟩ := elemAns hX k hlt
      subst e1
      have HC := Lib.hid (merged1_any A xs[k] va vo T wr (HT.out.below HB.out HT.out.2) (HO.out.mono HB.out fun _ _ h => h) ho)
      have HAT : Hid (eqA A xs[k] = true → fidx (eqA A) xs = k) := fun he => fidx_at _ _ k hlt (fun i hi => HN.out i (by omega) hi) he
      have HK : Hid (eqA A xs[k] = false → ∀ i (hi : i < xs.length), i < k + 1 → eqA A xs[i] = false) := fun he i hi h => by
        by_cases e : i = k
        · subst e; exact he
        · exact HN.out i hi (by omega)
      obtain ⟨aoo, cao, rfl, -⟩ := ho.shape
      clear hX ho hnm i1 i2
      generalize xs[k] = x at *
      obtain ⟨r, hr⟩ : ∃ r, eqA A x = r := ⟨_, rfl⟩
      rw [hr] at HC HAT HK
      clear hr
      go_wp2_with fail
      refine HC.out.mono ?_; rintro e w1 ⟨rfl, hb1⟩
      have HB2 := Lib.hid (HB.out.trans (hb1.mono HB.out.size))
      cases r
      · have HK2 := Lib.hid (HK.out rfl)
        clear hb1
        go_wp2
        go_roundw
        case rel => exact ⟨k + 1, by omega, by go_num, HK2, HB2⟩
        case measure => simp [intOf]; omega
      · have HF := Lib.hid (HAT.out rfl)
        clear hb1
        go_wp2
        go_ret
        exact ⟨ret_int HF.out.symm, HB2.out⟩
    · have HF : Hid (fidx (eqA A) xs = -1) := fidx_none _ _ fun i hi => HN.out i hi (by omega)
      go_wp2
      go_ret
      exact ⟨ret_int HF.out.symm, HB.out⟩
end Go.Proofs.YtlhidbbphngpcaaDoor
