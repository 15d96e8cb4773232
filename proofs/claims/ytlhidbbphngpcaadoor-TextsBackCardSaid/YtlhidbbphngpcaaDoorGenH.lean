/-
  slices.Backward over nodes: what it hands the rounds.
-/
import Derived.RangeFuncNested
import Derived.RangeFuncBound
import Derived.RangeFuncCalls
import Derived.RangeFuncLeaves
import Derived.Shelf.Abstract
import Derived.Shelf.RegionOpen
import Derived.OwnWalkIn
import Derived.TacticsInMore
import Derived.LoopNIn
import Derived.LoopIn
import Derived.Test.YtlhidbbphngpcaaDoorTreeT
namespace Go.Proofs.YtlhidbbphngpcaaDoor
set_option linter.unusedVariables false
set_option linter.unusedSimpArgs false
open Go.ChangeShapes Go.WideShapes Go.ChangeAt Go.RowKit Go.Shelf
attribute [local go_sem] Oper.semAt_some

def nodV (n : Nod) : Value := .agg #[.bool n.lf, .int .i64 n.an, .int .i64 n.bd, .int .i64 n.ls, .int .i64 n.mr]
/-- what a round is handed: the place and the node. -/
def bkE (ns : List Nod) (k : Fin ns.length) : Array Value := #[.int .i64 (k.1 : Int), nodV ns[k.1]]
/-- the rounds are j, j - 1 .. : those below j are to come. -/
def Dn {n : Nat} (j : Nat) (pre : List (Fin n)) : Prop := pre.map (fun k => k.1) = (List.range' j (n - j)).reverse ∧ j ≤ n
/-- what a round keeps: what lay below n0; the box with the slice. -/
def Kp2 (n₀ Bs : Nat) (A B : World) : Prop := Below n₀ A B ∧ ∀ o, A.heap[Bs]? = some o → B.heap[Bs]? = some o
theorem Kp2.trans {n₀ Bs : Nat} {A B C : World} (h : Kp2 n₀ Bs A B) (g : Kp2 n₀ Bs B C) : Kp2 n₀ Bs A C := ⟨h.1.trans g.1, fun o ho => g.2 o (h.2 o ho)⟩
theorem Kp2.refl (n₀ Bs : Nat) (A : World) : Kp2 n₀ Bs A A := ⟨Below.refl _ _, fun _ h => h⟩
theorem Kp2.cell {n₀ Bs : Nat} {A B : World} (h : Kp2 n₀ Bs A B) {t : TypeId} {v : Value} (hb : Boxed A Bs t v) : B.cell? ⟨Bs, 0, none⟩ = some v := Boxed.cell (t := t) (h.2 _ hb)
set_option maxRecDepth 100000 in
set_option maxHeartbeats 2000000 in
theorem backward1_in (F : Fence) (n : Nat) (hf : F.fn 81) (hro : F.round = none) (hn : 1 ≤ n) (l Bs n₀ : Nat) (v : Value) (ns : List Nod) (J Jx : List (Fin ns.length) → World → Prop)
    (hY : ∀ pre x W, J pre W → pre.length < ns.length → YieldAt F (n - 1) Tryd.prog l (bkE ns x) W fun e W' =>
      (e = .returned (.bool true) ∧ J (pre ++ [x]) W' ∧ Kp2 n₀ Bs W W') ∨ (e = .returned (.bool false) ∧ Jx (pre ++ [x]) W'))
    (W : World) (hBs : W.cell? ⟨Bs, 0, none⟩ = some v) (hv : ∀ W', Kp2 n₀ Bs W W' → SlAt W' 5 RNod v ns) (hB : ∀ W', Kp2 n₀ Bs W W' → W'.cell? ⟨Bs, 0, none⟩ = some v) (h0 : J [] W) :
    CallsIn F n Tryd.prog 81 #[.func (.yield l) #[] #[], .pointer (some ⟨Bs, 0, none⟩)] W fun e W' => (∃ v, e = .returned v) ∧
      ((∃ ys, Dn 0 ys ∧ J ys W') ∨ (∃ pre, True ∧ Jx pre W')) := by
  obtain ⟨av, cv, rfl, hl⟩ := (hv W (Kp2.refl _ _ _)).shape
  have hm := maxLen_eq _ hl
  have HV : Hid (∀ W', Kp2 n₀ Bs W W' → SlAt W' 5 RNod (.slice av ns.length cv) ns) := Lib.hid hv
  have HB : Hid (∀ W', Kp2 n₀ Bs W W' → W'.cell? ⟨Bs, 0, none⟩ = some (.slice av ns.length cv)) := Lib.hid hB
  have HM := Lib.hid hm
  have hw0 : wrap64 ((ns.length : Int) - 1) = (ns.length : Int) - 1 := IntWalk.wrap64_in _ (by omega)
  clear hv hB hl hm
  refine callsIn_of_wp Tryd.func81 rfl hf ?_ hro
  simp only [Tryd.ntmps81, List.size_toArray, List.length_cons, List.length_nil, Nat.reduceAdd, Nat.reduceSub, Array.replicate_succ, Array.replicate_zero, List.push_toArray, List.append_toArray, List.nil_append, List.cons_append]
  have HW0 := Lib.hid hw0
  clear hw0
  gi_wp2
  gi_loopw [3] (fun i wr => ∃ (j : Nat) (i' : Int) (pre : List (Fin ns.length)), i = .int .i64 i' ∧ Hid (i' = (j : Int) - 1) ∧ Hid (Dn j pre) ∧ J pre wr ∧ Kp2 n₀ Bs W wr)
    (fun i _ => (intOf i + 1).toNat)
  case atStart => exact ⟨ns.length, _, [], rfl, Lib.hid HW0.out, Lib.hid ⟨by simp, Nat.le_refl _⟩, h0, Kp2.refl _ _ _⟩
  case round =>
    obtain ⟨j, i', pre, rfl, hi, hd, hJs, hnx⟩ := hrel
    have hc1 := HB.out _ hnx
    cases j with
    | zero =>
      obtain rfl : i' = -1 := by have := hi.out; omega
      gi_wp2
      go_end0
      exact ⟨⟨_, rfl⟩, .inl ⟨_, hd.out, hJs⟩⟩
    | succ j =>
      obtain rfl : i' = (j : Int) := by have := hi.out; omega
      have hjl : j < ns.length := by have := hd.out.2; omega
      have hpl : pre.length < ns.length := by
        have := congrArg List.length hd.out.1
        simp at this
        omega
      obtain ⟨b, off, hb, hbl, c0, c1, c2, c3, c4⟩ := elemNod (HV.out _ hnx) j hjl
      obtain ⟨fn, tmps, assign, body, hy, hR⟩ := hY pre ⟨j, hjl⟩ wr hJs hpl
      have hD2 : Hid (Dn j (pre ++ [⟨j, hjl⟩])) := by
        have h2 := hd.out
        refine ⟨?_, by omega⟩
        have e : ns.length - j = (ns.length - (j + 1)) + 1 := by omega
        rw [List.map_append, h2.1, e, List.range'_succ, List.reverse_cons]
        simp
      have hji : (j : Int) < (ns.length : Int) := by omega
      have hw : wrap64 ((j : Int) - 1) = (j : Int) - 1 := IntWalk.wrap64_in _ (by have := HM.out; omega)
      subst hb
      unfold bkE nodV at hy
      dsimp only at hy
      clear hbl
      gi_wp2
      refine hR.mono ?_
      rintro e W3 (⟨rfl, hJ3, hk3⟩ | ⟨rfl, hJx3⟩)
      · gi_wp2
        go_roundw
        case rel => exact ⟨j, _, _, rfl, Lib.hid (by first | rfl | exact hw), hD2, hJ3, hnx.trans hk3⟩
        case measure => simp [intOf, hw]
      · gi_wp2
        refine bodyPost_ret (results_none rfl _ _ _) rfl ?_
        exact ⟨⟨_, rfl⟩, .inr ⟨_, trivial, hJx3⟩⟩
theorem backward_in (F : Fence) (n : Nat) (hf : F.fn 64) (hro : F.round = none) (ao : Option Addr) (n0 c0 : Nat) (w : World) :
    CallsIn F n Tryd.prog 64 #[.slice ao n0 c0] w fun e w' => e = .returned (.func (.func 81) #[] #[.pointer (some ⟨w.heap.size, 0, none⟩)]) ∧ w' = w.alloc (.cells #[.slice ao n0 c0] 62) := by
  refine callsIn_of_wp Tryd.func64 rfl hf ?_ hro
  simp only [Tryd.ntmps64, List.size_toArray, List.length_cons, List.length_nil, Nat.reduceAdd, Nat.reduceSub, Array.replicate_succ, Array.replicate_zero, List.push_toArray, List.append_toArray, List.nil_append, List.cons_append]
  gi_wp2
  go_ret
  exact ⟨rfl, rfl⟩
theorem backward_stops (F : Fence) (n : Nat) (hf : F.fn 81) (hro : F.round = none) (hn : 1 ≤ n) (Bs n₀ : Nat) (t : TypeId) (v : Value) (ns : List Nod) (w : World) (hBs : Bs < w.heap.size) (hn₀ : n₀ ≤ w.heap.size)
    (hc : Boxed w Bs t v) (hv : ∀ W', Below n₀ w W' → SlAt W' 5 RNod v ns) :
    SeqStopsK F n Tryd.prog 81 #[.pointer (some ⟨Bs, 0, none⟩)] (bkE ns) (Kp2 n₀ Bs) (fun ys => Dn 0 ys) (fun _ => True) ns.length w := fun l J Jx W hW _ _ hY h0 =>
  have hb : Kp2 n₀ Bs w W := ⟨hW.mono hn₀, fun o ho => (hW.block Bs hBs).trans ho⟩
  backward1_in F n hf hro hn l Bs n₀ v ns J Jx hY W (hb.cell hc) (fun W' h => hv W' (hb.1.trans h.1)) (fun W' h => (hb.trans h).cell hc) h0
end Go.Proofs.YtlhidbbphngpcaaDoor
