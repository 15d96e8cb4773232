/-
  sundialref.stateOf: what is saved, and letters. slices.Backward over changes: what it hands the rounds. zones.state: what is saved, and letters. sundialref.endOf: where an era ends. zones.untils: where the eras of a zone end.
-/
import Derived.RangeFuncNested
import Derived.RangeFuncBound
import Derived.RangeFuncCalls
import Derived.RangeFuncLeaves
import Derived.Shelf.Abstract
import Derived.Shelf.RegionOpen
import Derived.OwnWalkIn
import Derived.TacticsInMore
import Derived.LoopNIn
import Derived.LoopIn
import Derived.Deep.OwnRows
import Derived.OrdersHeld
import Derived.Deep.RegionHeld3
import Derived.Test.YtbikdlcjbigafaaGreatDoorJZonE0
import Derived.Test.YtbikdlcjbigafaaGreatDoorJZonK0
import Derived.Test.YtbikdlcjbigafaaGreatDoorJRdA
import Derived.Test.YtbikdlcjbigafaaGreatDoorJZonG0
namespace Go.Proofs.YtbikdlcjbigafaaGreatDoor
set_option linter.unusedVariables false
set_option linter.unusedSimpArgs false
open Go.ChangeShapes Go.WideShapes Go.ChangeAt Go.RowKit Civ

theorem lastT_at {T : List Trn} {t : Int} {k : Nat} (h : k < T.length) (hp : T[k].ins ≤ t) (hn : ∀ (j : Nat) (hj : j < T.length), k < j → ¬ T[j].ins ≤ t) : lastT T t = some T[k] := by
  unfold lastT
  have e : T = T.take k ++ T[k] :: T.drop (k + 1) := by rw [← List.drop_eq_getElem_cons h, List.take_append_drop]
  have h1 : (T.drop (k + 1)).reverse.find? (fun c => decide (c.ins ≤ t)) = none := by
    rw [List.find?_eq_none]
    intro x hx
    rw [List.mem_reverse, List.mem_iff_getElem] at hx
    obtain ⟨i, hi, rfl⟩ := hx
    rw [List.getElem_drop]
    have := hn (k + 1 + i) (by rw [List.length_drop] at hi; omega) (by omega)
    simpa using this
  generalize T[k] = y at *
  rw [e, List.reverse_append, List.reverse_cons, List.append_assoc, List.find?_append, h1]
  rw [Option.none_or, List.singleton_append, List.find?_cons_of_pos (by simpa using hp)]
theorem lastT_none {T : List Trn} {t : Int} (hn : ∀ (j : Nat) (hj : j < T.length), ¬ T[j].ins ≤ t) : lastT T t = none := by
  unfold lastT
  rw [List.find?_eq_none]
  intro x hx
  rw [List.mem_reverse, List.mem_iff_getElem] at hx
  obtain ⟨i, hi, rfl⟩ := hx
  simpa using hn i hi
end Go.Proofs.YtbikdlcjbigafaaGreatDoor
namespace Go.Proofs.YtbikdlcjbigafaaGreatDoor
set_option linter.unusedVariables false
set_option linter.unusedSimpArgs false
open Go.ChangeShapes Go.WideShapes Go.ChangeAt Go.RowKit Go.Shelf
attribute [local go_sem] Oper.semAt_some

theorem elemChg {w : World} {aa : Option Addr} {n ca : Nat} {xs : List Trn} (h : SlAt w 4 RChg (.slice aa n ca) xs) (k : Nat) (hk : k < xs.length) :
    ∃ b off, aa = some ⟨b, off, none⟩ ∧ b < w.heap.size ∧ w.cell? ⟨b, off + k * 4, none⟩ = some (.int .i64 xs[k].no) ∧ w.cell? ⟨b, off + k * 4 + 1, none⟩ = some (.int .i64 xs[k].ins) ∧ w.cell? ⟨b, off + k * 4 + 2, none⟩ = some (.int .i64 xs[k].r.sv) ∧ w.cell? ⟨b, off + k * 4 + 3, none⟩ = some (.string xs[k].r.lt) := by
  rcases h with ⟨a, cap, _, rfl⟩ | ⟨b, off, cap, e, h0, h1, h2, h3, h4⟩
  · simp at hk
  · obtain ⟨cs, hl, rfl, hc⟩ := h4 k hk
    simp only [Value.slice.injEq] at e
    obtain ⟨rfl, -, -⟩ := e
    exact ⟨b, off, rfl, h3, hc 0 (by omega), hc 1 (by omega), hc 2 (by omega), hc 3 (by omega)⟩
/-- the rounds are j, j - 1 .. : those below j are to come. -/
def DnC {n : Nat} (j : Nat) (pre : List (Fin n)) : Prop := pre.map (fun k => k.1) = (List.range' j (n - j)).reverse ∧ j ≤ n
theorem DnC.all {n : Nat} {pre : List (Fin n)} (h : DnC 0 pre) (i : Nat) (hi : i < n) : (⟨i, hi⟩ : Fin n) ∈ pre := by
  have h1 : i ∈ pre.map (fun k => k.1) := by rw [h.1, List.mem_reverse, List.mem_range']; exact ⟨i, by omega, by omega⟩
  obtain ⟨k, hk, e⟩ := List.mem_map.1 h1
  have : k = ⟨i, hi⟩ := Fin.ext e
  rwa [← this]
theorem DnC.last {n j : Nat} {pre : List (Fin n)} {k : Fin n} (h : DnC j (pre ++ [k])) : k.1 = j ∧ ∀ (i : Nat) (hi : i < n), j < i → (⟨i, hi⟩ : Fin n) ∈ pre := by
  obtain ⟨h1, h2⟩ := h
  rw [List.map_append, List.map_cons, List.map_nil] at h1
  have hl := congrArg List.length h1
  simp at hl
  have e : n - j = (n - (j + 1)) + 1 := by omega
  rw [e, List.range'_succ, List.reverse_cons] at h1
  obtain ⟨h3, h4⟩ := List.append_inj' h1 rfl
  refine ⟨by simpa using h4, fun i hi hji => ?_⟩
  have h5 : i ∈ pre.map (fun k => k.1) := by rw [h3, List.mem_reverse, List.mem_range']; exact ⟨i - (j + 1), by omega, by omega⟩
  obtain ⟨q, hq, e'⟩ := List.mem_map.1 h5
  have : q = ⟨i, hi⟩ := Fin.ext e'
  rwa [← this]
/-- what a round keeps: what lay below n0; the box with the slice. -/
def KpC (n₀ Bs : Nat) (A B : World) : Prop := Below n₀ A B ∧ ∀ o, A.heap[Bs]? = some o → B.heap[Bs]? = some o
theorem KpC.trans {n₀ Bs : Nat} {A B C : World} (h : KpC n₀ Bs A B) (g : KpC n₀ Bs B C) : KpC n₀ Bs A C := ⟨h.1.trans g.1, fun o ho => g.2 o (h.2 o ho)⟩
theorem KpC.refl (n₀ Bs : Nat) (A : World) : KpC n₀ Bs A A := ⟨Below.refl _ _, fun _ h => h⟩
theorem KpC.cell {n₀ Bs : Nat} {A B : World} (h : KpC n₀ Bs A B) {t : TypeId} {v : Value} (hb : Boxed A Bs t v) : B.cell? ⟨Bs, 0, none⟩ = some v := Boxed.cell (t := t) (h.2 _ hb)
def chgV (x : Trn) : Value := .agg #[.int .i64 x.no, .int .i64 x.ins, .int .i64 x.r.sv, .string x.r.lt]
/-- what a round is handed: the place and the node. -/
def bkC (ns : List Trn) (k : Fin ns.length) : Array Value := #[.int .i64 (k.1 : Int), chgV ns[k.1]]
set_option maxRecDepth 100000 in
set_option maxHeartbeats 2000000 in
theorem backwardC1_in (F : Fence) (n : Nat) (hf : F.fn 112) (hro : F.round = none) (hn : 1 ≤ n) (l Bs n₀ : Nat) (v : Value) (ns : List Trn) (J Jx : List (Fin ns.length) → World → Prop)
    (hY : ∀ pre x W, J pre W → pre.length < ns.length → YieldAt F (n - 1) Tryz.prog l (bkC ns x) W fun e W' =>
      (e = .returned (.bool true) ∧ J (pre ++ [x]) W' ∧ KpC n₀ Bs W W') ∨ (e = .returned (.bool false) ∧ Jx (pre ++ [x]) W'))
    (W : World) (hBs : W.cell? ⟨Bs, 0, none⟩ = some v) (hv : ∀ W', KpC n₀ Bs W W' → SlAt W' 4 RChg v ns) (hB : ∀ W', KpC n₀ Bs W W' → W'.cell? ⟨Bs, 0, none⟩ = some v) (h0 : J [] W) :
    CallsIn F n Tryz.prog 112 #[.func (.yield l) #[] #[], .pointer (some ⟨Bs, 0, none⟩)] W fun e W' => (∃ v, e = .returned v) ∧
      ((∃ ys, DnC 0 ys ∧ J ys W') ∨ (∃ pre, (∃ j, DnC j pre) ∧ Jx pre W')) := by
  obtain ⟨av, cv, rfl, hl⟩ := (hv W (KpC.refl _ _ _)).shape
  have hm := maxLen_eq _ hl
  have HV : Hid (∀ W', KpC n₀ Bs W W' → SlAt W' 4 RChg (.slice av ns.length cv) ns) := Lib.hid hv
  have HB : Hid (∀ W', KpC n₀ Bs W W' → W'.cell? ⟨Bs, 0, none⟩ = some (.slice av ns.length cv)) := Lib.hid hB
  have HM := Lib.hid hm
  have hw0 : wrap64 ((ns.length : Int) - 1) = (ns.length : Int) - 1 := IntWalk.wrap64_in _ (by omega)
  clear hv hB hl hm
  refine callsIn_of_wp Tryz.func112 rfl hf ?_ hro
  simp only [Tryz.ntmps112, List.size_toArray, List.length_cons, List.length_nil, Nat.reduceAdd, Nat.reduceSub, Array.replicate_succ, Array.replicate_zero, List.push_toArray, List.append_toArray, List.nil_append, List.cons_append]
  have HW0 := Lib.hid hw0
  clear hw0
  gi_wp2
  gi_loopw [3] (fun i wr => ∃ (j : Nat) (i' : Int) (pre : List (Fin ns.length)), i = .int .i64 i' ∧ Hid (i' = (j : Int) - 1) ∧ Hid (DnC j pre) ∧ J pre wr ∧ KpC n₀ Bs W wr)
    (fun i _ => (intOf i + 1).toNat)
  case atStart => exact ⟨ns.length, _, [], rfl, Lib.hid HW0.out, Lib.hid ⟨by simp, Nat.le_refl _⟩, h0, KpC.refl _ _ _⟩
  case round =>
    obtain ⟨j, i', pre, rfl, hi, hd, hJs, hnx⟩ := hrel
    have hc1 := HB.out _ hnx
    cases j with
    | zero =>
      obtain rfl : i' = -1 := by have := hi.out; omega
      gi_wp2
      go_end0
      exact ⟨⟨_, rfl⟩, .inl ⟨_, hd.out, hJs⟩⟩
    | succ j =>
      obtain rfl : i' = (j : Int) := by have := hi.out; omega
      have hjl : j < ns.length := by have := hd.out.2; omega
      have hpl : pre.length < ns.length := by
        have := congrArg List.length hd.out.1
        simp at this
        omega
      obtain ⟨b, off, hb, hbl, c0, c1, c2, c3⟩ := elemChg (HV.out _ hnx) j hjl
      obtain ⟨fn, tmps, assign, body, hy, hR⟩ := hY pre ⟨j, hjl⟩ wr hJs hpl
      have hD2 : Hid (DnC j (pre ++ [⟨j, hjl⟩])) := by
        have h2 := hd.out
        refine ⟨?_, by omega⟩
        have e : ns.length - j = (ns.length - (j + 1)) + 1 := by omega
        rw [List.map_append, h2.1, e, List.range'_succ, List.reverse_cons]
        simp
      have hji : (j : Int) < (ns.length : Int) := by omega
      have hw : wrap64 ((j : Int) - 1) = (j : Int) - 1 := IntWalk.wrap64_in _ (by have := HM.out; omega)
      subst hb
      unfold bkC chgV at hy
      dsimp only at hy
      clear hbl
      gi_wp2
      refine hR.mono ?_
      rintro e W3 (⟨rfl, hJ3, hk3⟩ | ⟨rfl, hJx3⟩)
      · gi_wp2
        go_roundw
        case rel => exact ⟨j, _, _, rfl, Lib.hid (by first | rfl | exact hw), hD2, hJ3, hnx.trans hk3⟩
        case measure => simp [intOf, hw]
      · gi_wp2
        refine bodyPost_ret (results_none rfl _ _ _) rfl ?_
        exact ⟨⟨_, rfl⟩, .inr ⟨_, ⟨j, hD2.out⟩, hJx3⟩⟩
theorem backwardC_in (F : Fence) (n : Nat) (hf : F.fn 67) (hro : F.round = none) (ao : Option Addr) (n0 c0 : Nat) (w : World) :
    CallsIn F n Tryz.prog 67 #[.slice ao n0 c0] w fun e w' => e = .returned (.func (.func 112) #[] #[.pointer (some ⟨w.heap.size, 0, none⟩)]) ∧ w' = w.alloc (.cells #[.slice ao n0 c0] 94) := by
  refine callsIn_of_wp Tryz.func67 rfl hf ?_ hro
  simp only [Tryz.ntmps67, List.size_toArray, List.length_cons, List.length_nil, Nat.reduceAdd, Nat.reduceSub, Array.replicate_succ, Array.replicate_zero, List.push_toArray, List.append_toArray, List.nil_append, List.cons_append]
  gi_wp2
  go_ret
  exact ⟨rfl, rfl⟩
theorem backwardC_stops (F : Fence) (n : Nat) (hf : F.fn 112) (hro : F.round = none) (hn : 1 ≤ n) (Bs n₀ : Nat) (t : TypeId) (v : Value) (ns : List Trn) (w : World) (hBs : Bs < w.heap.size) (hn₀ : n₀ ≤ w.heap.size)
    (hc : Boxed w Bs t v) (hv : ∀ W', Below n₀ w W' → SlAt W' 4 RChg v ns) :
    SeqStopsK F n Tryz.prog 112 #[.pointer (some ⟨Bs, 0, none⟩)] (bkC ns) (KpC n₀ Bs) (fun ys => DnC 0 ys) (fun ys => ∃ j, DnC j ys) ns.length w := fun l J Jx W hW _ _ hY h0 =>
  have hb : KpC n₀ Bs w W := ⟨hW.mono hn₀, fun o ho => (hW.block Bs hBs).trans ho⟩
  backwardC1_in F n hf hro hn l Bs n₀ v ns J Jx hY W (hb.cell hc) (fun W' h => hv W' (hb.1.trans h.1)) (fun W' h => (hb.trans h).cell hc) h0
end Go.Proofs.YtbikdlcjbigafaaGreatDoor
namespace Go.Proofs.YtbikdlcjbigafaaGreatDoor
set_option linter.unusedVariables false
set_option linter.unusedSimpArgs false
open Go.ChangeShapes Go.WideShapes Go.ChangeAt Go.RowKit Go.Shelf
attribute [local go_sem] Oper.semAt_some

/-- an operation in a round, by its law outside. -/
theorem opC_round {P : Program} {l n : Nat} {o : Oper} (hd : ∀ c, o.op ≠ .defer c) {a : Act} {w : World} {K K' : Act → World → Prop} {Q : Exit → Act → World → Prop} (hK : ∀ a w, K a w → K' a w) (h : o.wp P a w K Q) : o.wpIn (Fence.wide.inRound l) n P a w K' Q := by
  refine ⟨fun _ _ => trivial, ?_⟩
  rw [Oper.semAt_eq _ _ _ hd]
  unfold Oper.wp at h
  generalize (execOp a.eval o).run P w = r at *
  cases r with
  | ok x w' =>
    cases x <;> simp only [Oper.upon] at h <;> simp only [Oper.uponIn]
    case value => exact hK _ _ h
    case skip => exact hK _ _ h
    case defer => exact hK _ _ h
    case enter f args =>
      refine ⟨(fun e => by cases e), CallsIn.inRound l (callsIn_wide.2 (Calls.mono h fun e w'' he => ?_))⟩
      cases e with
      | returned v => exact hK _ _ he
      | panicked c => exact he
      | outgrown => exact he
    case row row args =>
      exact ⟨(fun e => by cases e), fun c cs _ => let ⟨v, w', r, s⟩ := h c cs; ⟨v, w', hK _ _ r, stepsIn_wide.2 s⟩⟩
  | halt x w' =>
    cases x <;> simp only [Oper.upon] at h <;> simp only [Oper.uponIn]
    case panic => exact h
theorem anyC_round {P : Program} {l n : Nat} {ops : Array Oper} {md : Region.Mode} {Q : Exit → Act → World → Prop} (hd : ∀ (i : Nat) (o : Oper), ops[i]? = some o → ∀ c, o.op ≠ .defer c) (hL : ∀ a w, ¬ Q .outgrown a w) :
    ∀ (fuel : Nat) (listed : Array Bool) (a : Act) (w : World), wpAny P md ops Q fuel listed a w → wpAnyIn (Fence.wide.inRound l) n P md ops Q fuel listed a w
  | 0, _, _, _, h => h
  | fuel + 1, listed, a, w, h => ⟨h.1, fun i hi => by
    have h2 := h.2 i hi
    unfold wpOp at h2
    unfold wpOpIn
    cases ho : ops[i]? with
    | none =>
      rw [ho] at h2
      exact anyC_round hd hL fuel _ a w h2
    | some o =>
      rw [ho] at h2
      dsimp only at h2 ⊢
      split
      · rename_i hw
        rw [if_pos hw] at h2
        rcases h2 with h2 | ⟨_, a0, w0, h2⟩
        · exact opC_round (hd i o ho) (anyC_round hd hL fuel _) h2
        · exact absurd h2 (hL _ _)
      · rename_i hw
        rw [if_neg hw] at h2
        exact ⟨fun _ _ => trivial, anyC_round hd hL fuel _ _ _ h2⟩⟩
def noDeferC (o : Oper) : Bool := match o.op with
  | .defer _ => false
  | _ => true
theorem noDeferC_at {ops : Array Oper} (h : ops.toList.all noDeferC = true) (i : Nat) (o : Oper) (ho : ops[i]? = some o) (c : Call) : o.op ≠ .defer c := by
  intro e
  have := List.all_eq_true.1 h o (Array.mem_toList_iff.2 (Array.mem_of_getElem? ho))
  unfold noDeferC at this
  rw [e] at this
  cases this
/-- **a region that draws its order in a round: walked as outside.** -/
theorem regionC_round {P : Program} {l n id : Nat} {ops : Array Oper} {S : World → Prop} {Q : Exit → Act → World → Prop} {a : Act} {w : World} (hm : P.follows .mixedOrders = true) (hd : ops.toList.all noDeferC = true) (hL : ∀ a w, ¬ Q .outgrown a w)
    (h : wpAnyH P .any ops Q S ops.size (Array.replicate ops.size false) a w.drew) : (Code.region id ops true).wpIn (Fence.wide.inRound l) n P Q a w :=
  wpIn_region_any hm (anyC_round (noDeferC_at hd) hL _ _ _ _ (wpAny_of_held _ _ _ _ h))
/-- a block of cells. -/
theorem bxo_own {β : Type} (b : Nat) (cs : Array Value) (t : TypeId) : Own (fun (_ : β) W => BxO W b cs t) := fun s X Y row hs hg hrow =>
  hs.kept hg (fun e' => by obtain ⟨o, ho, hc⟩ := hrow b e'.symm; rw [show X.heap[b]? = _ from hs] at ho; cases ho; cases hc)
/-- what lies ahead of the rounds. -/
structure StB (w wx : World) (vr vz vl : Value) (x : Ero) (v : Value) (t r8 : Int) (r9 : ByteArray) : Prop where
  s : BxO wx w.heap.size #[vr, vz, vl] 28
  e : BxO wx (w.heap.size + 1) #[.int .i64 x.off, .string x.rl, .int .i64 x.sv, .string x.fm, .bool x.en, .int .i64 x.yr, .int .i64 x.un.mo, .int .i64 x.un.k, .int .i64 x.un.a, .int .i64 x.un.n, .int .i64 x.un.t, .int .i64 x.un.c] 68
  t : BxO wx (w.heap.size + 2) #[.int .i64 t] 3
  a : BxO wx (w.heap.size + 3) #[.int .i64 r8] 3
  b : BxO wx (w.heap.size + 4) #[.string r9] 9
theorem StB.new (w : World) (vr vz vl : Value) (x : Ero) (v : Value) (t : Int) : StB w (((((w.alloc (.cells #[vr, vz, vl] 28)).alloc (.cells #[.int .i64 x.off, .string x.rl, .int .i64 x.sv, .string x.fm, .bool x.en, .int .i64 x.yr, .int .i64 x.un.mo, .int .i64 x.un.k, .int .i64 x.un.a, .int .i64 x.un.n, .int .i64 x.un.t, .int .i64 x.un.c] 68)).alloc (.cells #[.int .i64 t] 3)).alloc (.cells #[.int .i64 0] 3)).alloc (.cells #[.string ⟨#[]⟩] 9)) vr vz vl x v t 0 ByteArray.empty := by
  have h1 := size_alloc w (.cells #[vr, vz, vl] 28)
  obtain ⟨W1, e1⟩ : ∃ W1, W1 = w.alloc (.cells #[vr, vz, vl] 28) := ⟨_, rfl⟩
  rw [← e1] at h1 ⊢
  have b1 : BxO W1 w.heap.size #[vr, vz, vl] 28 := by rw [e1]; exact BxO.new w _ _
  obtain ⟨W2, e2⟩ : ∃ W2, W2 = W1.alloc (.cells #[.int .i64 x.off, .string x.rl, .int .i64 x.sv, .string x.fm, .bool x.en, .int .i64 x.yr, .int .i64 x.un.mo, .int .i64 x.un.k, .int .i64 x.un.a, .int .i64 x.un.n, .int .i64 x.un.t, .int .i64 x.un.c] 68) := ⟨_, rfl⟩
  have h2 : W2.heap.size = w.heap.size + 2 := by rw [e2, size_alloc, h1]
  have b2 : BxO W2 (w.heap.size + 1) #[.int .i64 x.off, .string x.rl, .int .i64 x.sv, .string x.fm, .bool x.en, .int .i64 x.yr, .int .i64 x.un.mo, .int .i64 x.un.k, .int .i64 x.un.a, .int .i64 x.un.n, .int .i64 x.un.t, .int .i64 x.un.c] 68 := by rw [e2, ← h1]; exact BxO.new W1 _ _
  have b1 : BxO W2 w.heap.size #[vr, vz, vl] 28 := by rw [e2]; exact b1.alloc _
  rw [← e2]
  obtain ⟨W3, e3⟩ : ∃ W3, W3 = W2.alloc (.cells #[.int .i64 t] 3) := ⟨_, rfl⟩
  have h3 : W3.heap.size = w.heap.size + 3 := by rw [e3, size_alloc, h2]
  have b3 : BxO W3 (w.heap.size + 2) #[.int .i64 t] 3 := by rw [e3, ← h2]; exact BxO.new W2 _ _
  have b1 := b1.alloc (.cells #[.int .i64 t] 3); rw [← e3] at b1
  have b2 := b2.alloc (.cells #[.int .i64 t] 3); rw [← e3] at b2
  rw [← e3]
  obtain ⟨W4, e4⟩ : ∃ W4, W4 = W3.alloc (.cells #[.int .i64 0] 3) := ⟨_, rfl⟩
  have h4 : W4.heap.size = w.heap.size + 4 := by rw [e4, size_alloc, h3]
  have b4 : BxO W4 (w.heap.size + 3) #[.int .i64 0] 3 := by rw [e4, ← h3]; exact BxO.new W3 _ _
  have b1 := b1.alloc (.cells #[.int .i64 0] 3); rw [← e4] at b1
  have b2 := b2.alloc (.cells #[.int .i64 0] 3); rw [← e4] at b2
  have b3 := b3.alloc (.cells #[.int .i64 0] 3); rw [← e4] at b3
  rw [← e4]
  exact ⟨b1.alloc _, b2.alloc _, b3.alloc _, b4.alloc _, by rw [← h4]; exact BxO.new W4 _ _⟩
theorem stb_own {β : Type} (w : World) (vr vz vl : Value) (x : Ero) (v : Value) (t r8 : Int) (r9 : ByteArray) : Own (fun (_ : β) W => StB w W vr vz vl x v t r8 r9) := fun s X Y row hs hg hr =>
  ⟨bxo_own _ _ _ s X Y row hs.s hg hr, bxo_own _ _ _ s X Y row hs.e hg hr, bxo_own _ _ _ s X Y row hs.t hg hr, bxo_own _ _ _ s X Y row hs.a hg hr, bxo_own _ _ _ s X Y row hs.b hg hr⟩
theorem StB.all {w W W' : World} {vr vz vl : Value} {x : Ero} {v : Value} {t r8 : Int} {r9 : ByteArray} (h : StB w W vr vz vl x v t r8 r9) (hb : ∀ k, k < w.heap.size + 5 → W'.heap[k]? = W.heap[k]?) : StB w W' vr vz vl x v t r8 r9 :=
  ⟨(hb _ (by omega)).trans h.s, (hb _ (by omega)).trans h.e, (hb _ (by omega)).trans h.t, (hb _ (by omega)).trans h.a, (hb _ (by omega)).trans h.b⟩
theorem StB.put {w W : World} {vr vz vl : Value} {x : Ero} {v : Value} {t r8 : Int} {r9 : ByteArray} (h : StB w W vr vz vl x v t r8 r9) (a : Int) (b : ByteArray) : StB w ((W.setCell ⟨w.heap.size + 3, 0, none⟩ (.int .i64 a)).setCell ⟨w.heap.size + 4, 0, none⟩ (.string b)) vr vz vl x v t a b :=
  ⟨(h.s.other (by omega) _ _).other (by omega) _ _, (h.e.other (by omega) _ _).other (by omega) _ _, (h.t.other (by omega) _ _).other (by omega) _ _, (h.a.set0 _).other (by omega) _ _, (h.b.other (by omega) _ _).set0 _⟩
/-- the rounds that have been have not told. -/
def NoC (T : List Trn) (t : Int) (pre : List (Fin T.length)) : Prop := ∀ k ∈ pre, ¬ T[k.1].ins ≤ t
set_option maxRecDepth 100000 in
set_option maxHeartbeats 4000000 in
theorem state_any (s : Src) (x : Ero) (t : Int) (vr vz vl v : Value) (T : List Trn) (w : World) (hs : SrcAt w vr vz vl s) (hv : SlAt w 4 RChg v T) :
    Calls Tryz.prog 36 #[.agg #[vr, vz, vl], .agg #[.int .i64 x.off, .string x.rl, .int .i64 x.sv, .string x.fm, .bool x.en, .int .i64 x.yr, .int .i64 x.un.mo, .int .i64 x.un.k, .int .i64 x.un.a, .int .i64 x.un.n, .int .i64 x.un.t, .int .i64 x.un.c], v, .int .i64 t] w fun e w' => e = .returned (.tuple #[.int .i64 (stL s.rules x T t).1, .string (stL s.rules x T t).2]) ∧ Below w.heap.size w w' := by
  obtain ⟨av, cv, rfl, hl⟩ := hv.shape
  have HV := Lib.hid hv
  have HS := Lib.hid hs
  have S0 := Lib.hid (StB.new w vr vz vl x (.slice av T.length cv) t)
  have hB0 : Below w.heap.size w (((((w.alloc (.cells #[vr, vz, vl] 28)).alloc (.cells #[.int .i64 x.off, .string x.rl, .int .i64 x.sv, .string x.fm, .bool x.en, .int .i64 x.yr, .int .i64 x.un.mo, .int .i64 x.un.k, .int .i64 x.un.a, .int .i64 x.un.n, .int .i64 x.un.t, .int .i64 x.un.c] 68)).alloc (.cells #[.int .i64 t] 3)).alloc (.cells #[.int .i64 0] 3)).alloc (.cells #[.string ⟨#[]⟩] 9)) :=
    ((((( (Below.refl _ w).alloc (Nat.le_refl _) _).alloc (by simp) _).alloc (by simp; omega) _).alloc (by simp; omega) _).alloc (by simp; omega) _)
  obtain ⟨W0, hW0⟩ : ∃ W0, W0 = (((((w.alloc (.cells #[vr, vz, vl] 28)).alloc (.cells #[.int .i64 x.off, .string x.rl, .int .i64 x.sv, .string x.fm, .bool x.en, .int .i64 x.yr, .int .i64 x.un.mo, .int .i64 x.un.k, .int .i64 x.un.a, .int .i64 x.un.n, .int .i64 x.un.t, .int .i64 x.un.c] 68)).alloc (.cells #[.int .i64 t] 3)).alloc (.cells #[.int .i64 0] 3)).alloc (.cells #[.string ⟨#[]⟩] 9)) := ⟨_, rfl⟩
  rw [← hW0] at S0 hB0
  have HB0 := Lib.hid hB0
  have HW := Lib.hid hW0
  clear hs hv hl hB0 hW0
  refine (callsIn_wide (n := 6)).1 ?_
  refine callsIn_of_wp_marks Tryz.func36 rfl trivial ?_ rfl
  simp only [Tryz.ntmps36, List.size_toArray, List.length_cons, List.length_nil, Nat.reduceAdd, Nat.reduceSub, Array.replicate_succ, Array.replicate_zero, List.push_toArray, List.append_toArray, List.nil_append, List.cons_append]
  by_cases hem : x.rl = ByteArray.empty
  · have r1 : x.rl.toList = [] := by rw [hem]; exact (toList_nil_iff_emptyBytes _).2 rfl
    have r2 : x.rl.toList.isEmpty = true := by rw [r1]; rfl
    have HR : Hid (stL s.rules x T t = (x.sv, ByteArray.empty)) := by show _ = _; unfold stL; rw [if_pos hem]
    clear hem
    have c1 : W0.cell? ⟨w.heap.size + 1, 1, none⟩ = some (.string x.rl) := S0.out.e.cell 1
    have c2 : W0.cell? ⟨w.heap.size + 1, 2, none⟩ = some (.int .i64 x.sv) := S0.out.e.cell 2
    have c3 : W0.cell? ⟨w.heap.size + 1 + 1 + 1, 0, none⟩ = some (.int .i64 0) := S0.out.a.cell 0
    have c4 : W0.cell? ⟨w.heap.size + 1 + 1 + 1 + 1, 0, none⟩ = some (.string ⟨#[]⟩) := S0.out.b.cell 0
    have f3 : W0.frozen? ⟨w.heap.size + 1 + 1 + 1, 0, none⟩ = false := S0.out.a.frozen 0
    have f4 : W0.frozen? ⟨w.heap.size + 1 + 1 + 1 + 1, 0, none⟩ = false := S0.out.b.frozen 0
    have z4 : w.heap.size + 1 + 1 + 1 + 1 < W0.heap.size := S0.out.b.lt
    rw [HW.out] at c1 c2 c3 c4 f3 f4 z4
    gi_wp2
    refine ⟨.tuple #[.int .i64 x.sv, .string ⟨#[]⟩], by simp [results, Tryz.results36, go_sem], ?_⟩
    exact ⟨by rw [HR.out]; rfl, ((((( (Below.refl _ w).alloc (Nat.le_refl _) _).alloc (by simp) _).alloc (by simp; omega) _).alloc (by simp; omega) _).alloc (by simp; omega) _)⟩
  · obtain ⟨e1, e2⟩ := rl_ne hem
    have HR : Hid (∀ o, lastT T t = o → stL s.rules x T t = match o with | some c => (c.r.sv, c.r.lt) | none => (0, firstL s.rules x.rl)) := by
      show ∀ o, _ → _
      intro o ho
      unfold stL
      rw [if_neg hem, ho]
      cases o <;> rfl
    clear hem
    have c1 : W0.cell? ⟨w.heap.size + 1, 1, none⟩ = some (.string x.rl) := S0.out.e.cell 1
    rw [HW.out] at c1
    gi_wp2_with (refine ⟨trivial, ?_⟩; gi_at_call 67; refine (backwardC_in Fence.wide _ trivial rfl _ _ _ _).mono ?_; rintro e w' ⟨rfl, rfl⟩)
    have hz0 : W0.heap.size = w.heap.size + 1 + 1 + 1 + 1 + 1 := by rw [HW.out]; simp
    have S1 : StB w (W0.alloc (.cells #[.slice av T.length cv] 94)) vr vz vl x (.slice av T.length cv) t 0 ByteArray.empty := ⟨S0.out.s.alloc _, S0.out.e.alloc _, S0.out.t.alloc _, S0.out.a.alloc _, S0.out.b.alloc _⟩
    have hY0 := Boxed.new W0 94 (.slice av T.length cv)
    have hB1 : Below w.heap.size w (W0.alloc (.cells #[.slice av T.length cv] 94)) := HB0.out.alloc (by omega) _
    have hz1 : (W0.alloc (.cells #[.slice av T.length cv] 94)).heap.size = w.heap.size + 1 + 1 + 1 + 1 + 1 + 1 := by rw [size_alloc, hz0]
    rw [hz0] at hY0
    rw [← HW.out]
    generalize W0.alloc (.cells #[.slice av T.length cv] 94) = W1 at *
    clear c1 S0 HB0 HW
    have hst := backwardC_stops Fence.wide 5 trivial rfl (by decide) (w.heap.size + 1 + 1 + 1 + 1 + 1) w.heap.size 94 _ T W1 (by omega) (by omega) hY0 (fun W' h => HV.out.mono (hB1.trans h) fun _ _ h => h)
    refine wpIn_rangeFunc_ownH rfl (by decide) (gf := 112) (lb := #[.pointer (some ⟨w.heap.size + 1 + 1 + 1 + 1 + 1, 0, none⟩)]) rfl trivial (enters_of Tryz.func112 (by kernel_rfl) rfl)
      hst KpC.trans (fun W l o o' hl ho hc hw => ⟨belowK_b (w := w) (Nat.le_refl _) W l o o' (by omega) ho hc hw, fun q hq => (World.putObj_heap_other (by omega)).trans hq⟩) (Below.refl _ _) (fun _ => rfl)
      (fun pre W => (StB w W vr vz vl x (.slice av T.length cv) t 0 ByteArray.empty ∧ NoC T t pre) ∧ Below w.heap.size w W)
      (fun c pre W => (∃ pre0 k, pre = pre0 ++ [k] ∧ NoC T t pre0 ∧ T[k.1].ins ≤ t ∧ c = Code.ret ∧ StB w W vr vz vl x (.slice av T.length cv) t T[k.1].r.sv T[k.1].r.lt) ∧ Below w.heap.size w W)
      (OwnFrom.and (Own.from (fun s X Y row hs hg hr => ⟨stb_own w vr vz vl x _ t 0 _ s X Y row hs.1 hg hr, hs.2⟩) _) (ownFrom_below (Nat.le_refl _) (by omega)))
      (fun c => OwnFrom.and (Own.from (fun s X Y row hs hg hr => by obtain ⟨p, k, h1, h2, h3, h4, h5⟩ := hs; exact ⟨p, k, h1, h2, h3, h4, stb_own w vr vz vl x _ t _ _ s X Y row h5 hg hr⟩) _) (ownFrom_below (Nat.le_refl _) (by omega)))
      ⟨⟨S1, fun k hk => by cases hk⟩, hB1⟩
      (fun k a' W => ∃ Bx, w.heap.size + 4 < Bx ∧ BxO W Bx #[.int .i64 T[k.1].no, .int .i64 T[k.1].ins, .int .i64 T[k.1].r.sv, .string T[k.1].r.lt] 133 ∧ a' = { tmps := #[.agg #[vr, vz, vl], .agg #[.int .i64 x.off, .string x.rl, .int .i64 x.sv, .string x.fm, .bool x.en, .int .i64 x.yr, .int .i64 x.un.mo, .int .i64 x.un.k, .int .i64 x.un.a, .int .i64 x.un.n, .int .i64 x.un.t, .int .i64 x.un.c], .slice av T.length cv, .int .i64 t, .pointer (some ⟨w.heap.size, 0, none⟩), .pointer (some ⟨w.heap.size + 1, 0, none⟩), undef, .pointer (some ⟨w.heap.size + 1 + 1, 0, none⟩), .pointer (some ⟨w.heap.size + 1 + 1 + 1, 0, none⟩), .pointer (some ⟨w.heap.size + 1 + 1 + 1 + 1, 0, none⟩), undef, .pointer (some ⟨Bx, 0, none⟩), .pointer (some ⟨w.heap.size + 1, 1, none⟩), .string x.rl, .bool false, undef, undef, .slice av T.length cv, .func (.func 112) #[] #[.pointer (some ⟨w.heap.size + 1 + 1 + 1 + 1 + 1, 0, none⟩)], .int .i64 (k.1 : Int), chgV T[k.1], undef, undef, undef, undef, undef, undef, undef, undef, undef, undef, undef], defers := [] })
      (fun k a' _ X Y row hs hg hr => by obtain ⟨Bx, h1, h2, h3⟩ := hs; exact ⟨Bx, h1, bxo_own (β := Unit) Bx _ _ () X Y row h2 hg (fun r e => (hr r e).2), h3⟩)
      ?assign ?body ?done ?stop
    case assign =>
      rintro l pre k W K ⟨⟨hS1, hN1⟩, hB2⟩ hK
      have hlt := hS1.b.lt
      have hle := hB2.size
      unfold bkC chgV
      gi_wp2
      exact hK _ _ ((KeepsOthers.alloc _ _).from _) ⟨(Below.refl _ W).alloc (by omega) _, fun o ho => (Below.heap_alloc _ _ _ (Array.getElem?_eq_some_iff.1 ho).1).trans ho⟩ ⟨⟨⟨hS1.s.alloc _, hS1.e.alloc _, hS1.t.alloc _, hS1.a.alloc _, hS1.b.alloc _⟩, hN1⟩, hB2.alloc (by omega) _⟩ ⟨W.heap.size, by omega, BxO.new W _ _, rfl⟩
    case body =>
      rintro l pre k a' W hl ⟨r, hr⟩ ⟨⟨hS1, hN1⟩, hB2⟩ ⟨Bx, hBx, hX, rfl⟩ hlt
      have c1 : W.cell? ⟨Bx, 1, none⟩ = some (.int .i64 T[k.1].ins) := hX.cell 1
      have ct : W.cell? ⟨w.heap.size + 1 + 1, 0, none⟩ = some (.int .i64 t) := hS1.t.cell 0
      have HS1 := Lib.hid hS1
      have HN1 := Lib.hid hN1
      have HB2 := Lib.hid hB2
      have HX := Lib.hid hX
      clear hS1 hN1 hB2 hX
      by_cases hc : T[k.1].ins ≤ t
      · have HC := Lib.hid hc
        have c2 : W.cell? ⟨Bx, 2, none⟩ = some (.int .i64 T[k.1].r.sv) := HX.out.cell 2
        have c3 : W.cell? ⟨Bx, 3, none⟩ = some (.string T[k.1].r.lt) := HX.out.cell 3
        have ca : W.cell? ⟨w.heap.size + 1 + 1 + 1, 0, none⟩ = some (.int .i64 0) := HS1.out.a.cell 0
        have cb : W.cell? ⟨w.heap.size + 1 + 1 + 1 + 1, 0, none⟩ = some (.string ⟨#[]⟩) := HS1.out.b.cell 0
        have fa : W.frozen? ⟨w.heap.size + 1 + 1 + 1, 0, none⟩ = false := HS1.out.a.frozen 0
        have fb : W.frozen? ⟨w.heap.size + 1 + 1 + 1 + 1, 0, none⟩ = false := HS1.out.b.frozen 0
        have za : w.heap.size + 1 + 1 + 1 < W.heap.size := HS1.out.a.lt
        have zb : w.heap.size + 1 + 1 + 1 + 1 < W.heap.size := HS1.out.b.lt
        generalize hy : T[k.1] = y at *
        have HY := Lib.hid hy
        clear hy
        gi_wp2
        refine regionC_round (S := fun w' => w'.cell? ⟨Bx, 2, none⟩ = some (.int .i64 y.r.sv) ∧ w'.cell? ⟨Bx, 3, none⟩ = some (.string y.r.lt)) (by kernel_rfl) (by kernel_rfl) (fun _ _ h => h) ?_
        have HSq : (fun w' : World => w'.cell? ⟨Bx, 2, none⟩ = some (.int .i64 y.r.sv) ∧ w'.cell? ⟨Bx, 3, none⟩ = some (.string y.r.lt)) W.drew := ⟨c2, c3⟩
        refine wpAnyH_take (i := 0) (oi := ⟨some 25, Op.fieldAddr 133 (.tmp 11) 2, _, _, _, none⟩) (v := .pointer (some ⟨Bx, 2, none⟩)) rfl (by kernel_rfl) (by kernel_rfl) (by kernel_rfl) (fun _ _ _ h => h) (Or.inl ⟨by rfl, ?_⟩) HSq ?_
        · intro w' hSw
          try dsimp only at hSw
          go_simp
        simp only [Act.put, List.setIfInBounds_toArray, List.set_cons_zero, List.set_cons_succ]
        refine wpAnyH_take (i := 2) (oi := ⟨some 27, Op.fieldAddr 133 (.tmp 11) 3, _, _, _, none⟩) (v := .pointer (some ⟨Bx, 3, none⟩)) rfl (by kernel_rfl) (by kernel_rfl) (by kernel_rfl) (fun _ _ _ h => h) (Or.inl ⟨by rfl, ?_⟩) HSq ?_
        · intro w' hSw
          try dsimp only at hSw
          go_simp
        simp only [Act.put, List.setIfInBounds_toArray, List.set_cons_zero, List.set_cons_succ]
        refine wpAnyH_take (i := 1) (oi := ⟨some 26, Op.load 3 (.tmp 25), _, _, _, none⟩) (v := .int .i64 y.r.sv) rfl (by kernel_rfl) (by kernel_rfl) (by kernel_rfl) (fun _ _ _ h => h) (Or.inl ⟨by rfl, ?_⟩) HSq ?_
        · intro w' hSw
          try dsimp only at hSw
          go_simp
        simp only [Act.put, List.setIfInBounds_toArray, List.set_cons_zero, List.set_cons_succ]
        refine wpAnyH_take (i := 3) (oi := ⟨some 28, Op.load 9 (.tmp 27), _, _, _, none⟩) (v := .string y.r.lt) rfl (by kernel_rfl) (by kernel_rfl) (by kernel_rfl) (fun _ _ _ h => h) (Or.inl ⟨by rfl, ?_⟩) HSq ?_
        · intro w' hSw
          try dsimp only at hSw
          go_simp
        simp only [Act.put, List.setIfInBounds_toArray, List.set_cons_zero, List.set_cons_succ]
        refine wpAnyH_ready (rs := [4]) (by kernel_rfl) (by simp) ?_
        refine AllReadyH.cons (o := ⟨none, Op.store 3 (.tmp 8) (.tmp 26), _, _, _, none⟩) rfl (fun K hK => ?_) AllReadyH.nil
        go_simp
        have S2 : StB w (W.setCell ⟨w.heap.size + 1 + 1 + 1, 0, none⟩ (.int .i64 y.r.sv)).drew vr vz vl x (.slice av T.length cv) t y.r.sv ByteArray.empty :=
          ⟨HS1.out.s.other (by omega) _ _, HS1.out.e.other (by omega) _ _, HS1.out.t.other (by omega) _ _, HS1.out.a.set0 _, HS1.out.b.other (by omega) _ _⟩
        have k1 := (KeepsOthers.setCell W ⟨w.heap.size + 1 + 1 + 1, 0, none⟩ (.int .i64 y.r.sv)).trans (KeepsOthers.drew _)
        have kb1 : Below w.heap.size W (W.setCell ⟨w.heap.size + 1 + 1 + 1, 0, none⟩ (.int .i64 y.r.sv)).drew := ((Below.refl _ W).setCell (p := ⟨w.heap.size + 1 + 1 + 1, 0, none⟩) (by show w.heap.size ≤ w.heap.size + 1 + 1 + 1; omega) _).drew
        have hX2 : BxO (W.setCell ⟨w.heap.size + 1 + 1 + 1, 0, none⟩ (.int .i64 y.r.sv)).drew Bx #[.int .i64 y.no, .int .i64 y.ins, .int .i64 y.r.sv, .string y.r.lt] 133 := HX.out.other (b' := w.heap.size + 1 + 1 + 1) (by omega) 0 (.int .i64 y.r.sv)
        have HS2 : (fun w' : World => w'.cell? ⟨Bx, 2, none⟩ = some (.int .i64 y.r.sv) ∧ w'.cell? ⟨Bx, 3, none⟩ = some (.string y.r.lt)) (W.setCell ⟨w.heap.size + 1 + 1 + 1, 0, none⟩ (.int .i64 y.r.sv)).drew := ⟨hX2.cell 2, hX2.cell 3⟩
        generalize (W.setCell ⟨w.heap.size + 1 + 1 + 1, 0, none⟩ (.int .i64 y.r.sv)).drew = W2 at *
        refine hK.out _ _ HS2 (fun hHeld => ?_)
        clear hK K
        have cb2 : W2.cell? ⟨w.heap.size + 1 + 1 + 1 + 1, 0, none⟩ = some (.string ⟨#[]⟩) := S2.b.cell 0
        have fb2 : W2.frozen? ⟨w.heap.size + 1 + 1 + 1 + 1, 0, none⟩ = false := S2.b.frozen 0
        have zb2 : w.heap.size + 1 + 1 + 1 + 1 < W2.heap.size := S2.b.lt
        refine wpAnyH_ready (rs := [5]) (by kernel_rfl) (by simp) ?_
        refine AllReadyH.cons (o := ⟨none, Op.store 9 (.tmp 9) (.tmp 28), _, _, _, none⟩) rfl (fun K hK => ?_) AllReadyH.nil
        go_simp
        have S3 : StB w (W2.setCell ⟨w.heap.size + 1 + 1 + 1 + 1, 0, none⟩ (.string y.r.lt)) vr vz vl x (.slice av T.length cv) t y.r.sv y.r.lt :=
          ⟨S2.s.other (by omega) _ _, S2.e.other (by omega) _ _, S2.t.other (by omega) _ _, S2.a.other (by omega) _ _, S2.b.set0 _⟩
        have k2 := k1.trans (KeepsOthers.setCell W2 ⟨w.heap.size + 1 + 1 + 1 + 1, 0, none⟩ (.string y.r.lt))
        have kb2 := kb1.setCell (p := ⟨w.heap.size + 1 + 1 + 1 + 1, 0, none⟩) (by show w.heap.size ≤ w.heap.size + 1 + 1 + 1 + 1; omega) (.string y.r.lt)
        have HS3 : (fun w' : World => w'.cell? ⟨Bx, 2, none⟩ = some (.int .i64 y.r.sv) ∧ w'.cell? ⟨Bx, 3, none⟩ = some (.string y.r.lt)) (W2.setCell ⟨w.heap.size + 1 + 1 + 1 + 1, 0, none⟩ (.string y.r.lt)) :=
          ⟨(hX2.other (b' := w.heap.size + 1 + 1 + 1 + 1) (by omega) 0 (.string y.r.lt)).cell 2, (hX2.other (b' := w.heap.size + 1 + 1 + 1 + 1) (by omega) 0 (.string y.r.lt)).cell 3⟩
        generalize W2.setCell ⟨w.heap.size + 1 + 1 + 1 + 1, 0, none⟩ (.string y.r.lt) = W3 at *
        refine hK.out _ _ HS3 (fun hHeld => ?_)
        clear hK K
        refine wpAnyH_done (by kernel_rfl) ?_ _
        gi_wp2
        exact ⟨k2.from _, ⟨pre, k, rfl, HN1.out, by rw [HY.out]; exact HC.out, rfl, by rw [HY.out]; exact S3⟩, HB2.out.trans kb2⟩
      · have HC := Lib.hid hc
        have HNN : Hid (NoC T t (pre ++ [k])) := by
          show NoC _ _ _
          intro q hq
          rcases List.mem_append.1 hq with h | h
          · exact HN1.out q h
          · rw [List.mem_singleton.1 h]; exact hc
        generalize T[k.1] = y at *
        gi_wp2
        exact ⟨KeepsFrom.refl _ _, KpC.refl _ _ _, ⟨HS1.out, HNN.out⟩, HB2.out⟩
    case done =>
      rintro D zs W hD hSz ⟨⟨hS1, hN1⟩, hB2⟩ hK
      have HR2 : Hid (stL s.rules x T t = (0, firstL s.rules x.rl)) := HR.out none (lastT_none fun j hj => hN1 _ (hSz.all j hj))
      have q0 : W.cell? ⟨w.heap.size, 0, none⟩ = some vr := hS1.s.cell 0
      have q1 : W.cell? ⟨w.heap.size, 1, none⟩ = some vz := hS1.s.cell 1
      have q2 : W.cell? ⟨w.heap.size, 2, none⟩ = some vl := hS1.s.cell 2
      have g0 : W.cell? ⟨w.heap.size + 1, 0, none⟩ = some (.int .i64 x.off) := hS1.e.cell 0
      have g1 : W.cell? ⟨w.heap.size + 1, 1, none⟩ = some (.string x.rl) := hS1.e.cell 1
      have g2 : W.cell? ⟨w.heap.size + 1, 2, none⟩ = some (.int .i64 x.sv) := hS1.e.cell 2
      have g3 : W.cell? ⟨w.heap.size + 1, 3, none⟩ = some (.string x.fm) := hS1.e.cell 3
      have g4 : W.cell? ⟨w.heap.size + 1, 4, none⟩ = some (.bool x.en) := hS1.e.cell 4
      have g5 : W.cell? ⟨w.heap.size + 1, 5, none⟩ = some (.int .i64 x.yr) := hS1.e.cell 5
      have g6 : W.cell? ⟨w.heap.size + 1, 6, none⟩ = some (.int .i64 x.un.mo) := hS1.e.cell 6
      have g7 : W.cell? ⟨w.heap.size + 1, 7, none⟩ = some (.int .i64 x.un.k) := hS1.e.cell 7
      have g8 : W.cell? ⟨w.heap.size + 1, 8, none⟩ = some (.int .i64 x.un.a) := hS1.e.cell 8
      have g9 : W.cell? ⟨w.heap.size + 1, 9, none⟩ = some (.int .i64 x.un.n) := hS1.e.cell 9
      have g10 : W.cell? ⟨w.heap.size + 1, 10, none⟩ = some (.int .i64 x.un.t) := hS1.e.cell 10
      have g11 : W.cell? ⟨w.heap.size + 1, 11, none⟩ = some (.int .i64 x.un.c) := hS1.e.cell 11
      have HFI := Lib.hid (first_any_z s x vr vz vl W (HS.out.mono hB2))
      have HS1 := Lib.hid hS1
      have HB2 := Lib.hid hB2
      have HK := Lib.hid hK
      have HDz : Hid (w.heap.size + 5 < D) := Lib.hid (by omega)
      clear hS1 hN1 hB2 hK hSz HR hst hY0 hz1 hz0 hD hB1 S1
      gi_wp2_with (refine ⟨trivial, ?_⟩; gi_at_call 68; refine (callsIn_wide.2 HFI.out).mono ?_; rintro e w2 ⟨rfl, hb2⟩; have S2 := Lib.hid (HS1.out.all fun k hk => hb2.block k (Nat.lt_of_lt_of_le (by omega) HS1.out.b.lt)); have K2 := Lib.hid ((hb2.block D (Array.getElem?_eq_some_iff.1 HK.out).1).trans HK.out); have B2 := Lib.hid (HB2.out.trans (hb2.mono HB2.out.size)); clear hb2 q0 q1 q2 g0 g1 g2 g3 g4 g5 g6 g7 g8 g9 g10 g11; have ca : w2.cell? ⟨w.heap.size + 1 + 1 + 1, 0, none⟩ = some (.int .i64 0) := S2.out.a.cell 0; have cb : w2.cell? ⟨w.heap.size + 1 + 1 + 1 + 1, 0, none⟩ = some (.string ⟨#[]⟩) := S2.out.b.cell 0; have fa : w2.frozen? ⟨w.heap.size + 1 + 1 + 1, 0, none⟩ = false := S2.out.a.frozen 0; have fb : w2.frozen? ⟨w.heap.size + 1 + 1 + 1 + 1, 0, none⟩ = false := S2.out.b.frozen 0; have za : w.heap.size + 1 + 1 + 1 < w2.heap.size := S2.out.a.lt; have zb : w.heap.size + 1 + 1 + 1 + 1 < w2.heap.size := S2.out.b.lt)
      have hSF : StB w ((w2.setCell ⟨w.heap.size + 1 + 1 + 1, 0, none⟩ (.int .i64 0)).setCell ⟨w.heap.size + 1 + 1 + 1 + 1, 0, none⟩ (.string (firstL s.rules x.rl))) vr vz vl x (.slice av T.length cv) t 0 (firstL s.rules x.rl) := S2.out.put 0 _
      have hKF : ((w2.setCell ⟨w.heap.size + 1 + 1 + 1, 0, none⟩ (.int .i64 0)).setCell ⟨w.heap.size + 1 + 1 + 1 + 1, 0, none⟩ (.string (firstL s.rules x.rl))).heap[D]? = some (.deferred (some [])) := (Below.heap_setCell _ _ _ _ (by have := HDz.out; show D ≠ w.heap.size + 1 + 1 + 1 + 1; omega)).trans ((Below.heap_setCell _ _ _ _ (by have := HDz.out; show D ≠ w.heap.size + 1 + 1 + 1; omega)).trans K2.out)
      have hBF : Below w.heap.size w ((w2.setCell ⟨w.heap.size + 1 + 1 + 1, 0, none⟩ (.int .i64 0)).setCell ⟨w.heap.size + 1 + 1 + 1 + 1, 0, none⟩ (.string (firstL s.rules x.rl))) := (B2.out.setCell (p := ⟨w.heap.size + 1 + 1 + 1, 0, none⟩) (by show w.heap.size ≤ w.heap.size + 1 + 1 + 1; omega) _).setCell (p := ⟨w.heap.size + 1 + 1 + 1 + 1, 0, none⟩) (by show w.heap.size ≤ w.heap.size + 1 + 1 + 1 + 1; omega) _
      generalize (w2.setCell ⟨w.heap.size + 1 + 1 + 1, 0, none⟩ (.int .i64 0)).setCell ⟨w.heap.size + 1 + 1 + 1 + 1, 0, none⟩ (.string (firstL s.rules x.rl)) = WF at *
      have hq := hSF.all (W' := WF.putObj D (.deferred none)) fun k hk => World.putObj_heap_other (by have := HDz.out; omega)
      have qa : (WF.putObj D (.deferred none)).cell? ⟨w.heap.size + 1 + 1 + 1, 0, none⟩ = some (.int .i64 0) := hq.a.cell 0
      have qb : (WF.putObj D (.deferred none)).cell? ⟨w.heap.size + 1 + 1 + 1 + 1, 0, none⟩ = some (.string (firstL s.rules x.rl)) := hq.b.cell 0
      refine ⟨by simp, .inl ⟨_, _, rfl, run_takeDeferred hKF, ?_⟩⟩
      refine ⟨.tuple #[.int .i64 0, .string (firstL s.rules x.rl)], by simp [results, Tryz.results36, go_sem, qa, qb], ?_⟩
      exact ⟨by rw [HR2.out], hBF.trans (belowK_b (w := w) (Nat.le_refl _) WF D _ _ (by have := HDz.out; omega) hKF rfl rfl)⟩
    case stop =>
      rintro D c pre WF hD ⟨j, hj⟩ ⟨⟨pre0, k, rfl, hN0, hki, rfl, hSF⟩, hBF⟩ hKF
      obtain ⟨hkj, hall⟩ := hj.last
      have HR2 : Hid (stL s.rules x T t = (T[k.1].r.sv, T[k.1].r.lt)) := HR.out _ (lastT_at k.2 hki fun i hi h => hN0 _ (hall i hi (by omega)))
      have HDz : Hid (w.heap.size + 5 < D) := Lib.hid (by omega)
      clear hj hall hN0 HR hst hY0 hz1 hz0 hD hB1 S1
      generalize T[k.1] = y at *
      gi_wp2
      have hq := hSF.all (W' := WF.putObj D (.deferred none)) fun k hk => World.putObj_heap_other (by have := HDz.out; omega)
      have qa : (WF.putObj D (.deferred none)).cell? ⟨w.heap.size + 1 + 1 + 1, 0, none⟩ = some (.int .i64 y.r.sv) := hq.a.cell 0
      have qb : (WF.putObj D (.deferred none)).cell? ⟨w.heap.size + 1 + 1 + 1 + 1, 0, none⟩ = some (.string y.r.lt) := hq.b.cell 0
      refine ⟨by simp, .inl ⟨_, _, rfl, run_takeDeferred hKF, ?_⟩⟩
      refine ⟨.tuple #[.int .i64 y.r.sv, .string y.r.lt], by simp [results, Tryz.results36, go_sem, qa, qb], ?_⟩
      exact ⟨by rw [HR2.out], hBF.trans (belowK_b (w := w) (Nat.le_refl _) WF D _ _ (by have := HDz.out; omega) hKF rfl rfl)⟩
end Go.Proofs.YtbikdlcjbigafaaGreatDoor
namespace Go.Proofs.YtbikdlcjbigafaaGreatDoor
set_option linter.unusedVariables false
set_option linter.unusedSimpArgs false
open Go.ChangeShapes Go.WideShapes Go.ChangeAt Go.RowKit Civ

structure EOk (s : Src) (x : Ero) : Prop where
  r : ROk s x
  v : -86400 ≤ x.sv ∧ x.sv ≤ 86400
  k : chkM x.un.mo x.un.k x.un.a x.un.n x.un.t x.un.c = 0
  f : fndE x.yr x.un.mo x.un.k x.un.a x.un.n = 0
theorem atZ_mem (o : Int) : ∀ (l : List Trn) (s : Int) (x : Trn), x ∈ atZ o s l → ∃ y ∈ l, y.r = x.r
  | [], _, x, h => by cases h
  | y :: l, s, x, h => by
    have h' : x ∈ (⟨y.r, y.no, y.tg, insT' o s y⟩ : Trn) :: atZ o y.r.sv l := h
    rcases List.mem_cons.1 h' with rfl | h2
    · exact ⟨y, List.mem_cons_self, rfl⟩
    · obtain ⟨z, hz, e⟩ := atZ_mem o l _ x h2
      exact ⟨z, List.mem_cons_of_mem _ hz, e⟩
theorem stL_bd (s : Src) (x : Ero) (t : Int) (h : ∀ r ∈ s.rules, rulE r = 0) (hv : -86400 ≤ x.sv ∧ x.sv ≤ 86400) : -86400 ≤ (stL s.rules x (trE s.rules x) t).1 ∧ (stL s.rules x (trE s.rules x) t).1 ≤ 86400 := by
  unfold stL
  by_cases e : x.rl = ByteArray.empty
  · rw [if_pos e]; exact hv
  · rw [if_neg e]
    cases hl : lastT (trE s.rules x) t with
    | none => exact ⟨by show (-86400 : Int) ≤ 0; decide, by show (0 : Int) ≤ 86400; decide⟩
    | some c =>
      unfold lastT at hl
      have h1 := List.mem_reverse.1 (List.mem_of_find?_eq_some hl)
      unfold trE trns at h1
      obtain ⟨y, hy, e1⟩ := atZ_mem _ _ _ _ h1
      have h2 := (trn0_all s.rules x.rl h).1.rl y (so_mem hy)
      obtain ⟨-, -, -, -, -, a, b, -⟩ := rulE_zero (h _ h2.1)
      rw [e1] at a b
      exact ⟨a, b⟩
theorem chkM_one {mo k a n t : Int} (h : chkM mo k a n t 0 = 0) : chkM mo k a n t 1 = 0 := by
  obtain ⟨h1, -, -, h2, h3, h4, h5⟩ := chkM_zero h
  unfold chkM
  rw [if_neg (by omega), if_neg (by omega), if_neg (by omega)]
theorem insE_of {y mo k a n t c o s : Int} (h1 : chkM mo k a n t c = 0) (h2 : -86400 ≤ o ∧ o ≤ 86400) (h3 : -86400 ≤ s ∧ s ≤ 86400) (h4 : fndE y mo k a n = 0) : insE y mo k a n t c o s = 0 := by
  unfold insE
  rw [if_neg (by omega), if_neg (by omega), h4]
end Go.Proofs.YtbikdlcjbigafaaGreatDoor
namespace Go.Proofs.YtbikdlcjbigafaaGreatDoor
set_option linter.unusedVariables false
set_option linter.unusedSimpArgs false
open Go.ChangeShapes Go.WideShapes Go.ChangeAt Go.RowKit Civ

def encJ (x : Int) : List Value := [.int .i64 x]
theorem info_intz : (Tryz.prog.info? 3).map (fun i => (i.zero, i.size, i.bytes)) = some (some (.int .i64 0), 1, 8) := by kernel_rfl
/-- the boxes of a source and of a zone. -/
def ZnB (w wx : World) (vr vz vl : Value) (nm : ByteArray) (ve : Value) : Prop := (wx.cell? ⟨w.heap.size, 0, none⟩ = some vr ∧ wx.cell? ⟨w.heap.size, 1, none⟩ = some vz ∧ wx.cell? ⟨w.heap.size, 2, none⟩ = some vl) ∧ (wx.cell? ⟨w.heap.size + 1, 0, none⟩ = some (.string nm) ∧ wx.cell? ⟨w.heap.size + 1, 1, none⟩ = some ve) ∧ Below w.heap.size w wx ∧ w.heap.size + 2 ≤ wx.heap.size
theorem ZnB.new (w : World) (vr vz vl : Value) (nm : ByteArray) (ve : Value) : ZnB w ((w.alloc (.cells #[vr, vz, vl] 28)).alloc (.cells #[.string nm, ve] 65)) vr vz vl nm ve := by
  have h1 := size_alloc w (.cells #[vr, vz, vl] 28)
  refine ⟨⟨?_, ?_, ?_⟩, ⟨?_, ?_⟩, ((Below.refl _ _).alloc (Nat.le_refl _) _).alloc (by simp) _, by rw [size_alloc, h1]; exact Nat.le_refl _⟩
  · exact (World.cell?_alloc_past _ _ _ (by rw [h1]; exact Nat.lt_succ_self _)).trans ((World.cell?_alloc_at (w := w) _ _ w.heap.size 0 rfl).trans rfl)
  · exact (World.cell?_alloc_past _ _ _ (by rw [h1]; exact Nat.lt_succ_self _)).trans ((World.cell?_alloc_at (w := w) _ _ w.heap.size 1 rfl).trans rfl)
  · exact (World.cell?_alloc_past _ _ _ (by rw [h1]; exact Nat.lt_succ_self _)).trans ((World.cell?_alloc_at (w := w) _ _ w.heap.size 2 rfl).trans rfl)
  · exact (World.cell?_alloc_at (w := w.alloc (.cells #[vr, vz, vl] 28)) _ _ (w.heap.size + 1) 0 (by rw [h1])).trans rfl
  · exact (World.cell?_alloc_at (w := w.alloc (.cells #[vr, vz, vl] 28)) _ _ (w.heap.size + 1) 1 (by rw [h1])).trans rfl
theorem ZnB.low {w wx w' : World} {vr vz vl : Value} {nm : ByteArray} {ve : Value} (h : ZnB w wx vr vz vl nm ve) (hb : Below (w.heap.size + 2) wx w') : ZnB w w' vr vz vl nm ve := by
  obtain ⟨⟨h1, h2, h3⟩, ⟨h4, h5⟩, h6, h7⟩ := h
  have k : ∀ b j, b < w.heap.size + 2 → w'.cell? ⟨b, j, none⟩ = wx.cell? ⟨b, j, none⟩ := fun b j hb' => hb.cell (p := ⟨b, j, none⟩) hb'
  exact ⟨⟨(k _ _ (by omega)).trans h1, (k _ _ (by omega)).trans h2, (k _ _ (by omega)).trans h3⟩, ⟨(k _ _ (by omega)).trans h4, (k _ _ (by omega)).trans h5⟩, h6.trans (hb.mono (by omega)), Nat.le_trans h7 hb.size⟩
theorem ZnB.next {w wx w' : World} {vr vz vl : Value} {nm : ByteArray} {ve : Value} (h : ZnB w wx vr vz vl nm ve) (hb : Below wx.heap.size wx w') : ZnB w w' vr vz vl nm ve := h.low (hb.mono h.2.2.2)
theorem ZnB.row {w wx w' : World} {vr vz vl : Value} {nm : ByteArray} {ve : Value} {n sz : Nat} {e : TypeId} {v : Value} {xs : List Value} {o : Obj} (h : ZnB w wx vr vz vl nm ve) (ho : wx.ownsRow (w.heap.size + 2) e sz v n xs) (hg : (wx.alloc o).grownBy w' v.ownBlock) : ZnB w w' vr vz vl nm ve :=
  h.low (append_keep ho ((Below.refl _ _).alloc h.2.2.2 _) h.2.2.2 hg)
/-- ends that grow, beside the boxes. -/
structure UnS (w wx : World) (vr vz vl : Value) (nm : ByteArray) (ve vo : Value) (l : List Int) : Prop where
  zb : ZnB w wx vr vz vl nm ve
  rw : wx.ownsRow (w.heap.size + 2) 3 1 vo l.length (l.flatMap encJ)
theorem UnS.below {w wx w' : World} {vr vz vl : Value} {nm : ByteArray} {ve vo : Value} {l : List Int} (h : UnS w wx vr vz vl nm ve vo l) (hb : Below wx.heap.size wx w') : UnS w w' vr vz vl nm ve vo l :=
  ⟨h.zb.next hb, ownsRow_below h.rw hb (Nat.le_refl _)⟩
theorem UnS.out {w wx w' : World} {vr vz vl : Value} {nm : ByteArray} {ve vo v' : Value} {l : List Int} {y : Int} {o : Obj} {m : Nat} (h : UnS w wx vr vz vl nm ve vo l) (ho : w'.ownsRow (w.heap.size + 2) 3 1 v' m (l.flatMap encJ ++ encJ y)) (hm : m = l.length + 1) (hg : (wx.alloc o).grownBy w' vo.ownBlock) : UnS w w' vr vz vl nm ve v' (l ++ [y]) := by
  subst hm
  exact ⟨h.zb.row h.rw hg, own_snocG ho⟩
/-- an era's box, in the round. -/
structure UnR (w wx : World) (vr vz vl : Value) (nm : ByteArray) (ve vo : Value) (l : List Int) (B : Nat) (x : Ero) : Prop where
  u : UnS w wx vr vz vl nm ve vo l
  e : EroAt wx B 0 x
  z : B < wx.heap.size
theorem UnR.below {w wx w' : World} {vr vz vl : Value} {nm : ByteArray} {ve vo : Value} {l : List Int} {B : Nat} {x : Ero} (h : UnR w wx vr vz vl nm ve vo l B x) (hb : Below wx.heap.size wx w') : UnR w w' vr vz vl nm ve vo l B x :=
  ⟨h.u.below hb, h.e.below hb h.z, Nat.lt_of_lt_of_le h.z hb.size⟩
theorem UnR.new {w wx : World} {vr vz vl : Value} {nm : ByteArray} {ve vo : Value} {l : List Int} (h : UnS w wx vr vz vl nm ve vo l) (x : Ero) : UnR w (wx.alloc (.cells #[.int .i64 x.off, .string x.rl, .int .i64 x.sv, .string x.fm, .bool x.en, .int .i64 x.yr, .int .i64 x.un.mo, .int .i64 x.un.k, .int .i64 x.un.a, .int .i64 x.un.n, .int .i64 x.un.t, .int .i64 x.un.c] 68)) vr vz vl nm ve vo l wx.heap.size x :=
  ⟨h.below ((Below.refl _ _).alloc (Nat.le_refl _) _), EroAt.new _ _ _, by rw [size_alloc]; exact Nat.lt_succ_self _⟩
theorem EroAt.z {w : World} {B : Nat} {x : Ero} (h : EroAt w B 0 x) : w.cell? ⟨B, 0, none⟩ = some (.int .i64 x.off) ∧ w.cell? ⟨B, 1, none⟩ = some (.string x.rl) ∧ w.cell? ⟨B, 2, none⟩ = some (.int .i64 x.sv) ∧ w.cell? ⟨B, 3, none⟩ = some (.string x.fm) ∧ w.cell? ⟨B, 4, none⟩ = some (.bool x.en) ∧ w.cell? ⟨B, 5, none⟩ = some (.int .i64 x.yr) ∧ w.cell? ⟨B, 6, none⟩ = some (.int .i64 x.un.mo) ∧ w.cell? ⟨B, 7, none⟩ = some (.int .i64 x.un.k) ∧ w.cell? ⟨B, 8, none⟩ = some (.int .i64 x.un.a) ∧ w.cell? ⟨B, 9, none⟩ = some (.int .i64 x.un.n) ∧ w.cell? ⟨B, 10, none⟩ = some (.int .i64 x.un.t) ∧ w.cell? ⟨B, 11, none⟩ = some (.int .i64 x.un.c) := by
  unfold EroAt at h
  simpa only [Nat.zero_add] using h
theorem untL_succ (rules : List Rul) (l : List Ero) (k : Nat) (h : k + 1 < l.length) : (untL rules l).take (k + 1) = (untL rules l).take k ++ [endE rules (l[k]'(by omega))] := by
  have hl : (untL rules l).length = l.length - 1 := by unfold untL; rw [List.length_map, List.length_dropLast]
  rw [List.take_succ_eq_append_getElem (by omega)]
  congr 2
  unfold untL
  rw [List.getElem_map, List.getElem_dropLast]
theorem untL_len (rules : List Rul) (l : List Ero) : (untL rules l).length = l.length - 1 := by unfold untL; rw [List.length_map, List.length_dropLast]
set_option maxHeartbeats 8000000 in
set_option maxRecDepth 100000 in
theorem untils_any (s : Src) (nm : ByteArray) (xs : List Ero) (vr vz vl ve : Value) (w : World) (hs : SrcAt w vr vz vl s) (hT : Tab w) (hx : SlAt w 12 REro ve xs) (h1 : 1 ≤ xs.length) (h20 : xs.length ≤ 20) (hok : ∀ (k : Nat) (h : k + 1 < xs.length), EOk s (xs[k]'(by omega))) :
    Calls Tryz.prog 32 #[.agg #[vr, vz, vl], .agg #[.string nm, ve]] w fun e w' => ∃ v, e = .returned v ∧ w'.ownsRow (w.heap.size + 2) 3 1 v (untL s.rules xs).length ((untL s.rules xs).flatMap encJ) ∧ Below w.heap.size w w' := by
  obtain ⟨it, hit, ht0, ht1, ht2⟩ := info_parts info_intz
  obtain ⟨ae, ce, rfl, hl⟩ := hx.shape
  have hml := maxLen_eq _ hl
  have Z0 := Lib.hid (ZnB.new w vr vz vl nm (.slice ae xs.length ce))
  obtain ⟨W0, hW0⟩ : ∃ W0, W0 = (w.alloc (.cells #[vr, vz, vl] 28)).alloc (.cells #[.string nm, .slice ae xs.length ce] 65) := ⟨_, rfl⟩
  rw [← hW0] at Z0
  have HW := Lib.hid hW0
  have HS := Lib.hid hs
  have HT := Lib.hid hT
  have HX := Lib.hid hx
  have HO : Hid (∀ (k : Nat) (h : k + 1 < xs.length), EOk s (xs[k]'(by omega))) := hok
  obtain ⟨n, hn⟩ : ∃ n, xs.length = n + 1 := ⟨xs.length - 1, by omega⟩
  have hce : xs.length ≤ ce := by rcases hx with ⟨a, c, e, rfl⟩ | ⟨b, off, c, e, a1, a2, a3, -, -⟩
                                  · simp at h1
                                  · cases e; exact a2
  have hsl : wrap64 ((xs.length : Int) - 1) = (n : Int) := by rw [IntWalk.wrap64_in _ (by omega)]; omega
  have HN := Lib.hid hn
  have hnl : n ≤ xs.length := by omega
  have hn2 : n < xs.length := by omega
  have hn20 : n ≤ 19 := by omega
  clear hs hT hx hok hl hW0 hn
  go_enter Tryz.func32, Tryz.ntmps32
  go_upto_region 1 with fail
  rw [← HW.out]
  obtain ⟨g0, g1⟩ := Z0.out.2.1
  go_wp2_with fail
  clear g0 g1 HW hsl
  go_loopw [5, 22] (fun vo i wr => ∃ k : Nat, k ≤ n ∧ i = .int .i64 k ∧ Hid (UnS w wr vr vz vl nm (.slice ae xs.length ce) vo ((untL s.rules xs).take k))) (fun _ i _ => (n - intOf i).toNat)
  case atStart => exact ⟨0, Nat.zero_le _, rfl, Z0.out, World.ownsRow_nil _ _ _ _⟩
  case round =>
    obtain ⟨k, hk, rfl, UK⟩ := hrel
    by_cases hlt : k < n
    · have hki : (k : Int) < (n : Int) := by omega
      have hkx : k < xs.length := by omega
      obtain ⟨b, off, rfl, hb, ⟨d0, d1, d2, d3, d4, d5, d6, d7, d8, d9, d10, d11⟩, -⟩ := elemEro (HX.out.mono UK.out.zb.2.2.1 fun _ _ h => h) k hkx
      have HOk := Lib.hid (HO.out k (by have := HN.out; omega))
      have HSU := Lib.hid (untL_succ s.rules xs k (by have := HN.out; omega))
      generalize xs[k] = x at *
      obtain ⟨L, hL⟩ : ∃ L, L = (untL s.rules xs).take k := ⟨_, rfl⟩
      rw [← hL] at UK HSU
      have hLl : L.length = k := by rw [hL, List.length_take, untL_len]; have := HN.out; omega
      have HLl := Lib.hid hLl
      obtain ⟨ao, co, rfl⟩ := own_shape UK.out.rw
      have R1 := Lib.hid (UnR.new UK.out x)
      have hoo := HOk.out.r.o
      have hzw : w.heap.size + 2 ≤ wr.heap.size := UK.out.zb.2.2.2
      have HCH := Lib.hid (fun wx (hb : Below w.heap.size w wx) => changes_any s x vr vz vl wx (HS.out.mono hb) (HT.out.below hb) HOk.out.r)
      clear hL hLl
      by_cases hc : x.un.c = 0
      · have hcb : (x.un.c == 0) = true := by rw [hc]; rfl
        have HI1 : Hid (∀ wx, Below w.heap.size w wx → Calls Tryz.prog 64 #[.int .i64 x.yr, .agg #[.int .i64 x.un.mo, .int .i64 x.un.k, .int .i64 x.un.a, .int .i64 x.un.n, .int .i64 x.un.t, .int .i64 1], .int .i64 x.off, .int .i64 0] wx fun e w' => e = .returned (.tuple #[.int .i64 (unI x 1 0), .int .i64 0]) ∧ Below wx.heap.size wx w') := fun wx hb => by
          have hk := HOk.out.k
          rw [hc] at hk
          exact instant_ok _ _ _ _ _ _ _ _ _ wx (HT.out.below hb) (insE_of (chkM_one hk) HOk.out.r.o ⟨by decide, by decide⟩ HOk.out.f)
        have hsb := stL_bd s x (unI x 1 0 - 1) HOk.out.r.ok HOk.out.v
        have HSV : Hid (svE s.rules x = (stL s.rules x (trE s.rules x) (unI x 1 0 - 1)).1) := by show _ = _; unfold svE; rw [if_pos hc]
        have HEE : Hid (endE s.rules x = unI x x.un.c (svE s.rules x)) := rfl
        have HI2 : Hid (∀ wx, Below w.heap.size w wx → Calls Tryz.prog 64 #[.int .i64 x.yr, .agg #[.int .i64 x.un.mo, .int .i64 x.un.k, .int .i64 x.un.a, .int .i64 x.un.n, .int .i64 x.un.t, .int .i64 x.un.c], .int .i64 x.off, .int .i64 (stL s.rules x (trE s.rules x) (unI x 1 0 - 1)).1] wx fun e w' => e = .returned (.tuple #[.int .i64 (endE s.rules x), .int .i64 0]) ∧ Below wx.heap.size wx w') := fun wx hb => by
          rw [HEE.out, HSV.out]
          exact instant_ok _ _ _ _ _ _ _ _ _ wx (HT.out.below hb) (insE_of HOk.out.k HOk.out.r.o hsb HOk.out.f)
        have HST := Lib.hid (fun wx v (hb : Below w.heap.size w wx) (hv : SlAt wx 4 RChg v (trE s.rules x)) => state_any s x (unI x 1 0 - 1) vr vz vl v (trE s.rules x) wx (HS.out.mono hb) hv)
        have hIb : -3000000000 ≤ unI x 1 0 ∧ unI x 1 0 ≤ 5000000000 := by
          have h1 := fnd_bd _ _ _ _ _ HOk.out.f
          obtain ⟨-, -, -, -, -, ht0, ht1⟩ := chkM_zero HOk.out.k
          unfold unI ins
          simp
          omega
        obtain ⟨hIb1, hIb2⟩ := hIb
        generalize stL s.rules x (trE s.rules x) (unI x 1 0 - 1) = P at *
        obtain ⟨P1, P2⟩ := P
        clear hc hsb hoo HSV HEE
        generalize unI x 1 0 = T at *
        generalize endE s.rules x = E at *
        have tw1 : IntKind.i64.wrap (T - 1) = T - 1 := IntWalk.i64_in _ (by omega)
        go_wp2_with fail
        refine (HI1.out _ (R1.out.u.zb.2.2.1.alloc (by rw [size_alloc]; omega) _)).mono ?_
        rintro e w3 ⟨rfl, hb3⟩
        have R3 := Lib.hid ((R1.out.below ((Below.refl _ _).alloc (Nat.le_refl _) _)).below hb3)
        clear hb3 d0 d1 d2 d3 d4 d5 d6 d7 d8 d9 d10 d11 R1 UK HI1
        obtain ⟨g0, g1, g2, g3, g4, g5, g6, g7, g8, g9, g10, g11⟩ := R3.out.e.z
        obtain ⟨q0, q1, q2⟩ := R3.out.u.zb.1
        have hz3 : w.heap.size + 1 < w3.heap.size := R3.out.u.zb.2.2.2
        have hz4 : wr.heap.size < w3.heap.size := R3.out.z
        go_wp2
        go_region_held3 (fun w' => w'.cell? ⟨w.heap.size, 0, none⟩ = some vr ∧ w'.cell? ⟨w.heap.size, 1, none⟩ = some vz ∧ w'.cell? ⟨w.heap.size, 2, none⟩ = some vl ∧ w'.cell? ⟨wr.heap.size, 0, none⟩ = some (.int .i64 x.off) ∧ w'.cell? ⟨wr.heap.size, 1, none⟩ = some (.string x.rl) ∧ w'.cell? ⟨wr.heap.size, 2, none⟩ = some (.int .i64 x.sv) ∧ w'.cell? ⟨wr.heap.size, 3, none⟩ = some (.string x.fm) ∧ w'.cell? ⟨wr.heap.size, 4, none⟩ = some (.bool x.en) ∧ w'.cell? ⟨wr.heap.size, 5, none⟩ = some (.int .i64 x.yr) ∧ w'.cell? ⟨wr.heap.size, 6, none⟩ = some (.int .i64 x.un.mo) ∧ w'.cell? ⟨wr.heap.size, 7, none⟩ = some (.int .i64 x.un.k) ∧ w'.cell? ⟨wr.heap.size, 8, none⟩ = some (.int .i64 x.un.a) ∧ w'.cell? ⟨wr.heap.size, 9, none⟩ = some (.int .i64 x.un.n) ∧ w'.cell? ⟨wr.heap.size, 10, none⟩ = some (.int .i64 x.un.t) ∧ w'.cell? ⟨wr.heap.size, 11, none⟩ = some (.int .i64 x.un.c)) (first | (with_reducible exact ⟨q0, q1, q2, g0, g1, g2, g3, g4, g5, g6, g7, g8, g9, g10, g11⟩) | (with_reducible exact ⟨r0, r1, r2, s0, s1, s2, s3, s4, s5, s6, s7, s8, s9, s10, s11⟩) | (with_reducible exact ⟨t0, t1, t2, u0, u1, u2, u3, u4, u5, u6, u7, u8, u9, u10, u11⟩) | go_keep) (first | (go_at_call 37; refine (HCH.out _ (R3.out.u.zb.2.2.1.drew)).mono ?_; rintro e w9 ⟨v9, rfl, h9, hb9⟩; have R9 := Lib.hid ((R3.out.below ((Below.refl _ _).drew)).below hb9); obtain ⟨s0, s1, s2, s3, s4, s5, s6, s7, s8, s9, s10, s11⟩ := R9.out.e.z; obtain ⟨r0, r1, r2⟩ := R9.out.u.zb.1; clear hb9) | (go_at_call 36; refine (HST.out _ _ R9.out.u.zb.2.2.1 h9).mono ?_; rintro e w10 ⟨rfl, hb10⟩; have R10 := Lib.hid (R9.out.below hb10); obtain ⟨u0, u1, u2, u3, u4, u5, u6, u7, u8, u9, u10, u11⟩ := R10.out.e.z; obtain ⟨t0, t1, t2⟩ := R10.out.u.zb.1; clear hb10))
        have hz5 : w.heap.size + 1 < w10.heap.size := R10.out.u.zb.2.2.2
        have hz6 : wr.heap.size < w10.heap.size := R10.out.z
        clear q0 q1 q2 g0 g1 g2 g3 g4 g5 g6 g7 g8 g9 g10 g11 r0 r1 r2 s0 s1 s2 s3 s4 s5 s6 s7 s8 s9 s10 s11 R3 R9 h9 HCH HST
        go_wp2_with fail
        refine (HI2.out _ R10.out.u.zb.2.2.1).mono ?_
        rintro e w11 ⟨rfl, hb11⟩
        have R11 := Lib.hid (R10.out.below hb11)
        clear hb11 t0 t1 t2 u0 u1 u2 u3 u4 u5 u6 u7 u8 u9 u10 u11 R10 HI2
        have HTK : Hid ((untL s.rules xs).take (k + 1) = L ++ [E]) := HSU
        have hL2 : L.length ≤ 19 := by rw [HLl.out]; omega
        go_wp2_with (at_builtin; refine wpList_append_own _ rfl (.tmp 63) (.tmp 65) 77 rfl (w.heap.size + 2) 3 it (.int .i64 0) 1 8 Tryz.underlying77 hit ht0 ht1 ht2 rfl (by decide) _ _ _ rfl (R11.out.u.rw.alloc _) ⟨w11.heap.size, 0, none⟩ 1 1 (encJ E) rfl rfl (cells_at _ _ _ _ _ rfl rfl) (by intro u hu; simp [encJ] at hu; subst hu; rfl) (by unfold maxLen; omega) (by omega) (by rw [size_alloc]; exact Nat.le_succ_of_le R11.out.u.zb.2.2.2) ?_; intro v4 w4 hown hgrow _; have U4 := Lib.hid (R11.out.u.out hown rfl hgrow); obtain ⟨a4, c4, rfl⟩ := own_shape hown; clear hown hgrow)
        go_roundw
        case rel => exact ⟨k + 1, by omega, by go_num, by rw [HTK.out]; exact U4⟩
        case measure => simp [intOf]; omega
      · have hcb : (x.un.c == 0) = false := by simpa using hc
        have HI2 : Hid (∀ wx, Below w.heap.size w wx → Calls Tryz.prog 64 #[.int .i64 x.yr, .agg #[.int .i64 x.un.mo, .int .i64 x.un.k, .int .i64 x.un.a, .int .i64 x.un.n, .int .i64 x.un.t, .int .i64 x.un.c], .int .i64 x.off, .int .i64 0] wx fun e w' => e = .returned (.tuple #[.int .i64 (endE s.rules x), .int .i64 0]) ∧ Below wx.heap.size wx w') := fun wx hb => by
          have e : endE s.rules x = unI x x.un.c 0 := by unfold endE svE; rw [if_neg hc]
          rw [e]
          exact instant_ok _ _ _ _ _ _ _ _ _ wx (HT.out.below hb) (insE_of HOk.out.k HOk.out.r.o ⟨by decide, by decide⟩ HOk.out.f)
        clear hc hoo
        generalize endE s.rules x = E at *
        go_wp2_with fail
        refine (HI2.out _ (R1.out.u.zb.2.2.1.alloc (by rw [size_alloc]; omega) _)).mono ?_
        rintro e w11 ⟨rfl, hb11⟩
        have R11 := Lib.hid ((R1.out.below ((Below.refl _ _).alloc (Nat.le_refl _) _)).below hb11)
        clear hb11 d0 d1 d2 d3 d4 d5 d6 d7 d8 d9 d10 d11 R1 UK HI2
        have HTK : Hid ((untL s.rules xs).take (k + 1) = L ++ [E]) := HSU
        have hL2 : L.length ≤ 19 := by rw [HLl.out]; omega
        go_wp2_with (at_builtin; refine wpList_append_own _ rfl (.tmp 63) (.tmp 65) 77 rfl (w.heap.size + 2) 3 it (.int .i64 0) 1 8 Tryz.underlying77 hit ht0 ht1 ht2 rfl (by decide) _ _ _ rfl (R11.out.u.rw.alloc _) ⟨w11.heap.size, 0, none⟩ 1 1 (encJ E) rfl rfl (cells_at _ _ _ _ _ rfl rfl) (by intro u hu; simp [encJ] at hu; subst hu; rfl) (by unfold maxLen; omega) (by omega) (by rw [size_alloc]; exact Nat.le_succ_of_le R11.out.u.zb.2.2.2) ?_; intro v4 w4 hown hgrow _; have U4 := Lib.hid (R11.out.u.out hown rfl hgrow); obtain ⟨a4, c4, rfl⟩ := own_shape hown; clear hown hgrow)
        go_roundw
        case rel => exact ⟨k + 1, by omega, by go_num, by rw [HTK.out]; exact U4⟩
        case measure => simp [intOf]; omega
    · obtain rfl : k = n := by omega
      have HTL : Hid ((untL s.rules xs).take k = untL s.rules xs) := by
        show _ = _
        rw [List.take_of_length_le]
        rw [untL_len]
        have := HN.out
        omega
      rw [HTL.out] at UK
      have hnl2 : ¬ (k : Int) < ((xs.length - 1 : Nat) : Int) := by have := HN.out; omega
      clear hlt hk
      go_wp2
      go_ret
      exact ⟨_, rfl, UK.out.rw, UK.out.zb.2.2.1⟩
end Go.Proofs.YtbikdlcjbigafaaGreatDoor
