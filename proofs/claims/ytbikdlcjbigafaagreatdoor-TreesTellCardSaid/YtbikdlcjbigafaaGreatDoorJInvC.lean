/-
  slices.Backward over spans. · What tree.Inverse tells at a number: plain.
-/
import Derived.Test.YtbikdlcjbigafaaGreatDoorJFwdH
namespace Go.Proofs.YtbikdlcjbigafaaGreatDoor
set_option linter.unusedVariables false
set_option linter.unusedSimpArgs false
open Go.ChangeShapes Go.WideShapes Go.ChangeAt Go.RowKit Go.Shelf
attribute [local go_sem] Oper.semAt_some

def spnV (x : Spn) : Value := .agg #[.int .i64 x.fr, .int .i64 x.ck.off, .bool x.ck.sav, .string x.ck.nm]
/-- what a round is handed: the place and the node. -/
def bkS (ns : List Spn) (k : Fin ns.length) : Array Value := #[.int .i64 (k.1 : Int), spnV ns[k.1]]
set_option maxRecDepth 100000 in
set_option maxHeartbeats 2000000 in
theorem backwardS1_in (F : Fence) (n : Nat) (hf : F.fn 93) (hro : F.round = none) (hn : 1 ≤ n) (l Bs n₀ : Nat) (v : Value) (ns : List Spn) (J Jx : List (Fin ns.length) → World → Prop)
    (hY : ∀ pre x W, J pre W → pre.length < ns.length → YieldAt F (n - 1) Tryz.prog l (bkS ns x) W fun e W' =>
      (e = .returned (.bool true) ∧ J (pre ++ [x]) W' ∧ Kp2 n₀ Bs W W') ∨ (e = .returned (.bool false) ∧ Jx (pre ++ [x]) W'))
    (W : World) (hBs : W.cell? ⟨Bs, 0, none⟩ = some v) (hv : ∀ W', Kp2 n₀ Bs W W' → SlAt W' 4 RSpn v ns) (hB : ∀ W', Kp2 n₀ Bs W W' → W'.cell? ⟨Bs, 0, none⟩ = some v) (h0 : J [] W) :
    CallsIn F n Tryz.prog 93 #[.func (.yield l) #[] #[], .pointer (some ⟨Bs, 0, none⟩)] W fun e W' => (∃ v, e = .returned v) ∧
      ((∃ ys, Dn 0 ys ∧ J ys W') ∨ (∃ pre, True ∧ Jx pre W')) := by
  obtain ⟨av, cv, rfl, hl⟩ := (hv W (Kp2.refl _ _ _)).shape
  have hm := maxLen_eq _ hl
  have HV : Hid (∀ W', Kp2 n₀ Bs W W' → SlAt W' 4 RSpn (.slice av ns.length cv) ns) := Lib.hid hv
  have HB : Hid (∀ W', Kp2 n₀ Bs W W' → W'.cell? ⟨Bs, 0, none⟩ = some (.slice av ns.length cv)) := Lib.hid hB
  have HM := Lib.hid hm
  have hw0 : wrap64 ((ns.length : Int) - 1) = (ns.length : Int) - 1 := IntWalk.wrap64_in _ (by omega)
  clear hv hB hl hm
  refine callsIn_of_wp Tryz.func93 rfl hf ?_ hro
  simp only [Tryz.ntmps93, List.size_toArray, List.length_cons, List.length_nil, Nat.reduceAdd, Nat.reduceSub, Array.replicate_succ, Array.replicate_zero, List.push_toArray, List.append_toArray, List.nil_append, List.cons_append]
  have HW0 := Lib.hid hw0
  clear hw0
  gi_wp2
  gi_loopw [3] (fun i wr => ∃ (j : Nat) (i' : Int) (pre : List (Fin ns.length)), i = .int .i64 i' ∧ Hid (i' = (j : Int) - 1) ∧ Hid (Dn j pre) ∧ J pre wr ∧ Kp2 n₀ Bs W wr)
    (fun i _ => (intOf i + 1).toNat)
  case atStart => exact ⟨ns.length, _, [], rfl, Lib.hid HW0.out, Lib.hid ⟨by simp, Nat.le_refl _⟩, h0, Kp2.refl _ _ _⟩
  case round =>
    obtain ⟨j, i', pre, rfl, hi, hd, hJs, hnx⟩ := hrel
    have hc1 := HB.out _ hnx
    cases j with
    | zero =>
      obtain rfl : i' = -1 := by have := hi.out; omega
      gi_wp2
      go_end0
      exact ⟨⟨_, rfl⟩, .inl ⟨_, hd.out, hJs⟩⟩
    | succ j =>
      obtain rfl : i' = (j : Int) := by have := hi.out; omega
      have hjl : j < ns.length := by have := hd.out.2; omega
      have hpl : pre.length < ns.length := by
        have := congrArg List.length hd.out.1
        simp at this
        omega
      obtain ⟨b, off, hb, hbl, ⟨c0, c1, c2, c3⟩, _, _, _⟩ := elemSpn (HV.out _ hnx) j hjl
      obtain ⟨fn, tmps, assign, body, hy, hR⟩ := hY pre ⟨j, hjl⟩ wr hJs hpl
      have hD2 : Hid (Dn j (pre ++ [⟨j, hjl⟩])) := by
        have h2 := hd.out
        refine ⟨?_, by omega⟩
        have e : ns.length - j = (ns.length - (j + 1)) + 1 := by omega
        rw [List.map_append, h2.1, e, List.range'_succ, List.reverse_cons]
        simp
      have hji : (j : Int) < (ns.length : Int) := by omega
      have hw : wrap64 ((j : Int) - 1) = (j : Int) - 1 := IntWalk.wrap64_in _ (by have := HM.out; omega)
      subst hb
      unfold bkS spnV at hy
      dsimp only at hy
      clear hbl
      gi_wp2
      refine hR.mono ?_
      rintro e W3 (⟨rfl, hJ3, hk3⟩ | ⟨rfl, hJx3⟩)
      · gi_wp2
        go_roundw
        case rel => exact ⟨j, _, _, rfl, Lib.hid (by first | rfl | exact hw), hD2, hJ3, hnx.trans hk3⟩
        case measure => simp [intOf, hw]
      · gi_wp2
        refine bodyPost_ret (results_none rfl _ _ _) rfl ?_
        exact ⟨⟨_, rfl⟩, .inr ⟨_, trivial, hJx3⟩⟩
theorem backwardS_in (F : Fence) (n : Nat) (hf : F.fn 54) (hro : F.round = none) (ao : Option Addr) (n0 c0 : Nat) (w : World) :
    CallsIn F n Tryz.prog 54 #[.slice ao n0 c0] w fun e w' => e = .returned (.func (.func 93) #[] #[.pointer (some ⟨w.heap.size, 0, none⟩)]) ∧ w' = w.alloc (.cells #[.slice ao n0 c0] 31) := by
  refine callsIn_of_wp Tryz.func54 rfl hf ?_ hro
  simp only [Tryz.ntmps54, List.size_toArray, List.length_cons, List.length_nil, Nat.reduceAdd, Nat.reduceSub, Array.replicate_succ, Array.replicate_zero, List.push_toArray, List.append_toArray, List.nil_append, List.cons_append]
  gi_wp2
  go_ret
  exact ⟨rfl, rfl⟩
theorem backwardS_stops (F : Fence) (n : Nat) (hf : F.fn 93) (hro : F.round = none) (hn : 1 ≤ n) (Bs n₀ : Nat) (t : TypeId) (v : Value) (ns : List Spn) (w : World) (hBs : Bs < w.heap.size) (hn₀ : n₀ ≤ w.heap.size)
    (hc : Boxed w Bs t v) (hv : ∀ W', Below n₀ w W' → SlAt W' 4 RSpn v ns) :
    SeqStopsK F n Tryz.prog 93 #[.pointer (some ⟨Bs, 0, none⟩)] (bkS ns) (Kp2 n₀ Bs) (fun ys => Dn 0 ys) (fun _ => True) ns.length w := fun l J Jx W hW _ _ hY h0 =>
  have hb : Kp2 n₀ Bs w W := ⟨hW.mono hn₀, fun o ho => (hW.block Bs hBs).trans ho⟩
  backwardS1_in F n hf hro hn l Bs n₀ v ns J Jx hY W (hb.cell hc) (fun W' h => hv W' (hb.1.trans h.1)) (fun W' h => (hb.trans h).cell hc) h0
end Go.Proofs.YtbikdlcjbigafaaGreatDoor

namespace Go.Proofs.YtbikdlcjbigafaaGreatDoor
set_option linter.unusedVariables false
set_option linter.unusedSimpArgs false
open Go.ChangeShapes Go.WideShapes Go.ChangeAt Go.RowKit

theorem jump_fold (ss : List Seg) (t : Int) : ss.foldr (fun s j => if t < s.lo then s.fr else j) 4102444800 = jumpAt ss t := by
  induction ss with
  | nil => rfl
  | cons s ss ih =>
    rw [List.foldr_cons, ih]
    unfold jumpAt
    rw [List.find?_cons]
    by_cases h : t < s.lo
    · rw [if_pos h]; simp [h]
    · rw [if_neg h]; simp [h]
/-- the jump, when the places pre have been looked at. -/
def jmp (xs : List Spn) (t : Int) (pre : List (Fin xs.length)) : Int := pre.foldl (fun j k => if t < (segF xs k.1 xs[k.1]).lo then xs[k.1].fr else j) 4102444800
theorem jmp_snoc (xs : List Spn) (t : Int) (pre : List (Fin xs.length)) (x : Fin xs.length) : jmp xs t (pre ++ [x]) = if t < (segF xs x.1 xs[x.1]).lo then xs[x.1].fr else jmp xs t pre := by simp [jmp]
theorem jmp_done {xs : List Spn} {t : Int} {pre : List (Fin xs.length)} (h : Dn 0 pre) : jmp xs t pre = jumpAt (segs xs) t := by
  have e : pre.map (fun k => segF xs k.1 xs[k.1]) = (segs xs).reverse := by
    have h1 : pre.map (fun k => k.1) = (List.range' 0 xs.length).reverse := h.1
    have e1 : pre.map (fun k => segF xs k.1 xs[k.1]) = (pre.map (fun k => k.1)).map (fun i => (segs xs).getD i ⟨0, 0, 0, 0⟩) := by
      rw [List.map_map]
      refine List.map_congr_left fun k _ => ?_
      show _ = (segs xs).getD k.1 _
      rw [List.getD_eq_getElem?_getD, List.getElem?_eq_getElem (by rw [segs_len]; exact k.2), segs_at xs k.1 k.2]
      rfl
    rw [e1, h1, List.map_reverse]
    congr 1
    apply List.ext_getElem
    · rw [List.length_map, List.length_range', segs_len]
    · intro i h1 h2
      rw [List.getElem_map, List.getElem_range', Nat.zero_add, Nat.one_mul, List.getD_eq_getElem?_getD, List.getElem?_eq_getElem h2]
      rfl
  rw [← jump_fold]
  have e2 : jmp xs t pre = (pre.map (fun k => segF xs k.1 xs[k.1])).foldl (fun j s => if t < s.lo then s.fr else j) 4102444800 := by
    rw [List.foldl_map]
    rfl
  rw [e2, e, List.foldl_reverse]
theorem offs_take (xs : List Spn) (t : Int) (k : Nat) (h : k < xs.length) : offsAt ((segs xs).take (k + 1)) t = offsAt ((segs xs).take k) t ++ (if inS t (segF xs k xs[k]) = true then [xs[k].ck.off] else []) := by
  unfold offsAt
  rw [segs_take xs k h, List.filter_append, List.map_append]
  congr 1
  by_cases hb : inS t (segF xs k xs[k]) = true
  · rw [if_pos hb, List.filter_cons_of_pos hb, List.filter_nil]; rfl
  · rw [if_neg hb, List.filter_cons_of_neg hb, List.filter_nil]; rfl
theorem offs_len (ss : List Seg) (t : Int) : (offsAt ss t).length ≤ ss.length := by
  unfold offsAt
  rw [List.length_map]
  exact List.length_filter_le _ _
theorem offs_mem {xs : List Spn} {t o : Int} (h : o ∈ offsAt (segs xs) t) : ∃ i, ∃ hi : i < xs.length, o = xs[i].ck.off := by
  unfold offsAt at h
  obtain ⟨s, hs, rfl⟩ := List.mem_map.1 h
  obtain ⟨i, hi, rfl⟩ := List.mem_iff_getElem.1 (List.mem_filter.1 hs).1
  rw [segs_len] at hi
  exact ⟨i, hi, by rw [segs_at xs i hi]; rfl⟩
theorem jump_bd {xs : List Spn} (hb : ∀ j (hj : j < xs.length), SpB xs[j]) (t : Int) : -2208988800 ≤ jumpAt (segs xs) t ∧ jumpAt (segs xs) t ≤ 4102444800 := by
  unfold jumpAt
  split
  · rename_i s hs
    obtain ⟨i, hi, rfl⟩ := List.mem_iff_getElem.1 (List.mem_of_find?_eq_some hs)
    rw [segs_len] at hi
    rw [segs_at xs i hi]
    obtain ⟨a, b, _, _⟩ := hb i hi
    show -2208988800 ≤ xs[i].fr ∧ xs[i].fr ≤ 4102444800
    omega
  · omega
theorem tell_ok {xs : List Spn} (hb : ∀ j (hj : j < xs.length), SpB xs[j]) (t : Int) : AnO (tellA (segs xs) t) := by
  obtain ⟨j1, j2⟩ := jump_bd hb t
  refine ⟨i64_zero, ?_, Nat.zero_le _, fun o ho => ?_⟩
  · show I64 (if _ then _ else _)
    split
    · exact i64_of (by omega) (by omega)
    · exact i64_of (by omega) (by omega)
  · obtain ⟨i, hi, rfl⟩ := offs_mem ho
    obtain ⟨_, _, a, b⟩ := hb i hi
    exact i64_of (by omega) (by omega)
end Go.Proofs.YtbikdlcjbigafaaGreatDoor
