/-
  slices.Backward over changes: what it hands the rounds.
-/
import Derived.RangeFuncNested
import Derived.RangeFuncBound
import Derived.RangeFuncCalls
import Derived.RangeFuncLeaves
import Derived.Shelf.Abstract
import Derived.Shelf.RegionOpen
import Derived.OwnWalkIn
import Derived.TacticsInMore
import Derived.LoopNIn
import Derived.LoopIn
import Derived.Test.YtdpbedkppomffaaDoorZonL
namespace Go.Proofs.YtdpbedkppomffaaDoor
set_option linter.unusedVariables false
set_option linter.unusedSimpArgs false
open Go.ChangeShapes Go.WideShapes Go.ChangeAt Go.RowKit Go.Shelf
attribute [local go_sem] Oper.semAt_some

theorem elemChg {w : World} {aa : Option Addr} {n ca : Nat} {xs : List Trn} (h : SlAt w 4 RChg (.slice aa n ca) xs) (k : Nat) (hk : k < xs.length) :
    ∃ b off, aa = some ⟨b, off, none⟩ ∧ b < w.heap.size ∧ w.cell? ⟨b, off + k * 4, none⟩ = some (.int .i64 xs[k].no) ∧ w.cell? ⟨b, off + k * 4 + 1, none⟩ = some (.int .i64 xs[k].ins) ∧ w.cell? ⟨b, off + k * 4 + 2, none⟩ = some (.int .i64 xs[k].r.sv) ∧ w.cell? ⟨b, off + k * 4 + 3, none⟩ = some (.string xs[k].r.lt) := by
  rcases h with ⟨a, cap, _, rfl⟩ | ⟨b, off, cap, e, h0, h1, h2, h3, h4⟩
  · simp at hk
  · obtain ⟨cs, hl, rfl, hc⟩ := h4 k hk
    simp only [Value.slice.injEq] at e
    obtain ⟨rfl, -, -⟩ := e
    exact ⟨b, off, rfl, h3, hc 0 (by omega), hc 1 (by omega), hc 2 (by omega), hc 3 (by omega)⟩
/-- the rounds are j, j - 1 .. : those below j are to come. -/
def DnC {n : Nat} (j : Nat) (pre : List (Fin n)) : Prop := pre.map (fun k => k.1) = (List.range' j (n - j)).reverse ∧ j ≤ n
theorem DnC.all {n : Nat} {pre : List (Fin n)} (h : DnC 0 pre) (i : Nat) (hi : i < n) : (⟨i, hi⟩ : Fin n) ∈ pre := by
  have h1 : i ∈ pre.map (fun k => k.1) := by rw [h.1, List.mem_reverse, List.mem_range']; exact ⟨i, by omega, by omega⟩
  obtain ⟨k, hk, e⟩ := List.mem_map.1 h1
  have : k = ⟨i, hi⟩ := Fin.ext e
  rwa [← this]
theorem DnC.last {n j : Nat} {pre : List (Fin n)} {k : Fin n} (h : DnC j (pre ++ [k])) : k.1 = j ∧ ∀ (i : Nat) (hi : i < n), j < i → (⟨i, hi⟩ : Fin n) ∈ pre := by
  obtain ⟨h1, h2⟩ := h
  rw [List.map_append, List.map_cons, List.map_nil] at h1
  have hl := congrArg List.length h1
  simp at hl
  have e : n - j = (n - (j + 1)) + 1 := by omega
  rw [e, List.range'_succ, List.reverse_cons] at h1
  obtain ⟨h3, h4⟩ := List.append_inj' h1 rfl
  refine ⟨by simpa using h4, fun i hi hji => ?_⟩
  have h5 : i ∈ pre.map (fun k => k.1) := by rw [h3, List.mem_reverse, List.mem_range']; exact ⟨i - (j + 1), by omega, by omega⟩
  obtain ⟨q, hq, e'⟩ := List.mem_map.1 h5
  have : q = ⟨i, hi⟩ := Fin.ext e'
  rwa [← this]
/-- what a round keeps: what lay below n0; the box with the slice. -/
def KpC (n₀ Bs : Nat) (A B : World) : Prop := Below n₀ A B ∧ ∀ o, A.heap[Bs]? = some o → B.heap[Bs]? = some o
theorem KpC.trans {n₀ Bs : Nat} {A B C : World} (h : KpC n₀ Bs A B) (g : KpC n₀ Bs B C) : KpC n₀ Bs A C := ⟨h.1.trans g.1, fun o ho => g.2 o (h.2 o ho)⟩
theorem KpC.refl (n₀ Bs : Nat) (A : World) : KpC n₀ Bs A A := ⟨Below.refl _ _, fun _ h => h⟩
theorem KpC.cell {n₀ Bs : Nat} {A B : World} (h : KpC n₀ Bs A B) {t : TypeId} {v : Value} (hb : Boxed A Bs t v) : B.cell? ⟨Bs, 0, none⟩ = some v := Boxed.cell (t := t) (h.2 _ hb)
def chgV (x : Trn) : Value := .agg #[.int .i64 x.no, .int .i64 x.ins, .int .i64 x.r.sv, .string x.r.lt]
/-- what a round is handed: the place and the node. -/
def bkC (ns : List Trn) (k : Fin ns.length) : Array Value := #[.int .i64 (k.1 : Int), chgV ns[k.1]]
set_option maxRecDepth 100000 in
set_option maxHeartbeats 2000000 in
theorem backwardC1_in (F : Fence) (n : Nat) (hf : F.fn 109) (hro : F.round = none) (hn : 1 ≤ n) (l Bs n₀ : Nat) (v : Value) (ns : List Trn) (J Jx : List (Fin ns.length) → World → Prop)
    (hY : ∀ pre x W, J pre W → pre.length < ns.length → YieldAt F (n - 1) Tryd.prog l (bkC ns x) W fun e W' =>
      (e = .returned (.bool true) ∧ J (pre ++ [x]) W' ∧ KpC n₀ Bs W W') ∨ (e = .returned (.bool false) ∧ Jx (pre ++ [x]) W'))
    (W : World) (hBs : W.cell? ⟨Bs, 0, none⟩ = some v) (hv : ∀ W', KpC n₀ Bs W W' → SlAt W' 4 RChg v ns) (hB : ∀ W', KpC n₀ Bs W W' → W'.cell? ⟨Bs, 0, none⟩ = some v) (h0 : J [] W) :
    CallsIn F n Tryd.prog 109 #[.func (.yield l) #[] #[], .pointer (some ⟨Bs, 0, none⟩)] W fun e W' => (∃ v, e = .returned v) ∧
      ((∃ ys, DnC 0 ys ∧ J ys W') ∨ (∃ pre, (∃ j, DnC j pre) ∧ Jx pre W')) := by
  obtain ⟨av, cv, rfl, hl⟩ := (hv W (KpC.refl _ _ _)).shape
  have hm := maxLen_eq _ hl
  have HV : Hid (∀ W', KpC n₀ Bs W W' → SlAt W' 4 RChg (.slice av ns.length cv) ns) := Lib.hid hv
  have HB : Hid (∀ W', KpC n₀ Bs W W' → W'.cell? ⟨Bs, 0, none⟩ = some (.slice av ns.length cv)) := Lib.hid hB
  have HM := Lib.hid hm
  have hw0 : wrap64 ((ns.length : Int) - 1) = (ns.length : Int) - 1 := IntWalk.wrap64_in _ (by omega)
  clear hv hB hl hm
  refine callsIn_of_wp Tryd.func109 rfl hf ?_ hro
  simp only [Tryd.ntmps109, List.size_toArray, List.length_cons, List.length_nil, Nat.reduceAdd, Nat.reduceSub, Array.replicate_succ, Array.replicate_zero, List.push_toArray, List.append_toArray, List.nil_append, List.cons_append]
  have HW0 := Lib.hid hw0
  clear hw0
  gi_wp2
  gi_loopw [3] (fun i wr => ∃ (j : Nat) (i' : Int) (pre : List (Fin ns.length)), i = .int .i64 i' ∧ Hid (i' = (j : Int) - 1) ∧ Hid (DnC j pre) ∧ J pre wr ∧ KpC n₀ Bs W wr)
    (fun i _ => (intOf i + 1).toNat)
  case atStart => exact ⟨ns.length, _, [], rfl, Lib.hid HW0.out, Lib.hid ⟨by simp, Nat.le_refl _⟩, h0, KpC.refl _ _ _⟩
  case round =>
    obtain ⟨j, i', pre, rfl, hi, hd, hJs, hnx⟩ := hrel
    have hc1 := HB.out _ hnx
    cases j with
    | zero =>
      obtain rfl : i' = -1 := by have := hi.out; omega
      gi_wp2
      go_end0
      exact ⟨⟨_, rfl⟩, .inl ⟨_, hd.out, hJs⟩⟩
    | succ j =>
      obtain rfl : i' = (j : Int) := by have := hi.out; omega
      have hjl : j < ns.length := by have := hd.out.2; omega
      have hpl : pre.length < ns.length := by
        have := congrArg List.length hd.out.1
        simp at this
        omega
      obtain ⟨b, off, hb, hbl, c0, c1, c2, c3⟩ := elemChg (HV.out _ hnx) j hjl
      obtain ⟨fn, tmps, assign, body, hy, hR⟩ := hY pre ⟨j, hjl⟩ wr hJs hpl
      have hD2 : Hid (DnC j (pre ++ [⟨j, hjl⟩])) := by
        have h2 := hd.out
        refine ⟨?_, by omega⟩
        have e : ns.length - j = (ns.length - (j + 1)) + 1 := by omega
        rw [List.map_append, h2.1, e, List.range'_succ, List.reverse_cons]
        simp
      have hji : (j : Int) < (ns.length : Int) := by omega
      have hw : wrap64 ((j : Int) - 1) = (j : Int) - 1 := IntWalk.wrap64_in _ (by have := HM.out; omega)
      subst hb
      unfold bkC chgV at hy
      dsimp only at hy
      clear hbl
      gi_wp2
      refine hR.mono ?_
      rintro e W3 (⟨rfl, hJ3, hk3⟩ | ⟨rfl, hJx3⟩)
      · gi_wp2
        go_roundw
        case rel => exact ⟨j, _, _, rfl, Lib.hid (by first | rfl | exact hw), hD2, hJ3, hnx.trans hk3⟩
        case measure => simp [intOf, hw]
      · gi_wp2
        refine bodyPost_ret (results_none rfl _ _ _) rfl ?_
        exact ⟨⟨_, rfl⟩, .inr ⟨_, ⟨j, hD2.out⟩, hJx3⟩⟩
theorem backwardC_in (F : Fence) (n : Nat) (hf : F.fn 74) (hro : F.round = none) (ao : Option Addr) (n0 c0 : Nat) (w : World) :
    CallsIn F n Tryd.prog 74 #[.slice ao n0 c0] w fun e w' => e = .returned (.func (.func 109) #[] #[.pointer (some ⟨w.heap.size, 0, none⟩)]) ∧ w' = w.alloc (.cells #[.slice ao n0 c0] 81) := by
  refine callsIn_of_wp Tryd.func74 rfl hf ?_ hro
  simp only [Tryd.ntmps74, List.size_toArray, List.length_cons, List.length_nil, Nat.reduceAdd, Nat.reduceSub, Array.replicate_succ, Array.replicate_zero, List.push_toArray, List.append_toArray, List.nil_append, List.cons_append]
  gi_wp2
  go_ret
  exact ⟨rfl, rfl⟩
theorem backwardC_stops (F : Fence) (n : Nat) (hf : F.fn 109) (hro : F.round = none) (hn : 1 ≤ n) (Bs n₀ : Nat) (t : TypeId) (v : Value) (ns : List Trn) (w : World) (hBs : Bs < w.heap.size) (hn₀ : n₀ ≤ w.heap.size)
    (hc : Boxed w Bs t v) (hv : ∀ W', Below n₀ w W' → SlAt W' 4 RChg v ns) :
    SeqStopsK F n Tryd.prog 109 #[.pointer (some ⟨Bs, 0, none⟩)] (bkC ns) (KpC n₀ Bs) (fun ys => DnC 0 ys) (fun ys => ∃ j, DnC j ys) ns.length w := fun l J Jx W hW _ _ hY h0 =>
  have hb : KpC n₀ Bs w W := ⟨hW.mono hn₀, fun o ho => (hW.block Bs hBs).trans ho⟩
  backwardC1_in F n hf hro hn l Bs n₀ v ns J Jx hY W (hb.cell hc) (fun W' h => hv W' (hb.1.trans h.1)) (fun W' h => (hb.trans h).cell hc) h0
end Go.Proofs.YtdpbedkppomffaaDoor
