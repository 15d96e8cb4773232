/-
  zones.state: what is saved, and letters.
-/
import Derived.Deep.OwnRows
import Derived.OrdersHeld
import Derived.Deep.RegionHeld3
import Derived.Test.YtdpbedkppomffaaDoorZonM
namespace Go.Proofs.YtdpbedkppomffaaDoor
set_option linter.unusedVariables false
set_option linter.unusedSimpArgs false
open Go.ChangeShapes Go.WideShapes Go.ChangeAt Go.RowKit Go.Shelf
attribute [local go_sem] Oper.semAt_some

/-- an operation in a round, by its law outside. -/
theorem opC_round {P : Program} {l n : Nat} {o : Oper} (hd : ∀ c, o.op ≠ .defer c) {a : Act} {w : World} {K K' : Act → World → Prop} {Q : Exit → Act → World → Prop} (hK : ∀ a w, K a w → K' a w) (h : o.wp P a w K Q) : o.wpIn (Fence.wide.inRound l) n P a w K' Q := by
  refine ⟨fun _ _ => trivial, ?_⟩
  rw [Oper.semAt_eq _ _ _ hd]
  unfold Oper.wp at h
  generalize (execOp a.eval o).run P w = r at *
  cases r with
  | ok x w' =>
    cases x <;> simp only [Oper.upon] at h <;> simp only [Oper.uponIn]
    case value => exact hK _ _ h
    case skip => exact hK _ _ h
    case defer => exact hK _ _ h
    case enter f args =>
      refine ⟨(fun e => by cases e), CallsIn.inRound l (callsIn_wide.2 (Calls.mono h fun e w'' he => ?_))⟩
      cases e with
      | returned v => exact hK _ _ he
      | panicked c => exact he
      | outgrown => exact he
    case row row args =>
      exact ⟨(fun e => by cases e), fun c cs _ => let ⟨v, w', r, s⟩ := h c cs; ⟨v, w', hK _ _ r, stepsIn_wide.2 s⟩⟩
  | halt x w' =>
    cases x <;> simp only [Oper.upon] at h <;> simp only [Oper.uponIn]
    case panic => exact h
theorem anyC_round {P : Program} {l n : Nat} {ops : Array Oper} {md : Region.Mode} {Q : Exit → Act → World → Prop} (hd : ∀ (i : Nat) (o : Oper), ops[i]? = some o → ∀ c, o.op ≠ .defer c) (hL : ∀ a w, ¬ Q .outgrown a w) :
    ∀ (fuel : Nat) (listed : Array Bool) (a : Act) (w : World), wpAny P md ops Q fuel listed a w → wpAnyIn (Fence.wide.inRound l) n P md ops Q fuel listed a w
  | 0, _, _, _, h => h
  | fuel + 1, listed, a, w, h => ⟨h.1, fun i hi => by
    have h2 := h.2 i hi
    unfold wpOp at h2
    unfold wpOpIn
    cases ho : ops[i]? with
    | none =>
      rw [ho] at h2
      exact anyC_round hd hL fuel _ a w h2
    | some o =>
      rw [ho] at h2
      dsimp only at h2 ⊢
      split
      · rename_i hw
        rw [if_pos hw] at h2
        rcases h2 with h2 | ⟨_, a0, w0, h2⟩
        · exact opC_round (hd i o ho) (anyC_round hd hL fuel _) h2
        · exact absurd h2 (hL _ _)
      · rename_i hw
        rw [if_neg hw] at h2
        exact ⟨fun _ _ => trivial, anyC_round hd hL fuel _ _ _ h2⟩⟩
def noDeferC (o : Oper) : Bool := match o.op with
  | .defer _ => false
  | _ => true
theorem noDeferC_at {ops : Array Oper} (h : ops.toList.all noDeferC = true) (i : Nat) (o : Oper) (ho : ops[i]? = some o) (c : Call) : o.op ≠ .defer c := by
  intro e
  have := List.all_eq_true.1 h o (Array.mem_toList_iff.2 (Array.mem_of_getElem? ho))
  unfold noDeferC at this
  rw [e] at this
  cases this
/-- **a region that draws its order in a round: walked as outside.** -/
theorem regionC_round {P : Program} {l n id : Nat} {ops : Array Oper} {S : World → Prop} {Q : Exit → Act → World → Prop} {a : Act} {w : World} (hm : P.follows .mixedOrders = true) (hd : ops.toList.all noDeferC = true) (hL : ∀ a w, ¬ Q .outgrown a w)
    (h : wpAnyH P .any ops Q S ops.size (Array.replicate ops.size false) a w.drew) : (Code.region id ops true).wpIn (Fence.wide.inRound l) n P Q a w :=
  wpIn_region_any hm (anyC_round (noDeferC_at hd) hL _ _ _ _ (wpAny_of_held _ _ _ _ h))
/-- a block of cells. -/
def BxO (W : World) (b : Nat) (cs : Array Value) (t : TypeId) : Prop := W.heap[b]? = some (.cells cs t (0, 0))
theorem BxO.lt {W : World} {b : Nat} {cs : Array Value} {t : TypeId} (h : BxO W b cs t) : b < W.heap.size := (Array.getElem?_eq_some_iff.1 h).1
theorem BxO.cell {W : World} {b : Nat} {cs : Array Value} {t : TypeId} (h : BxO W b cs t) (i : Nat) : W.cell? ⟨b, i, none⟩ = cs[i]? := by
  unfold World.cell?
  rw [show W.heap[b]? = _ from h]
  rfl
theorem BxO.frozen {W : World} {b : Nat} {cs : Array Value} {t : TypeId} (h : BxO W b cs t) (i : Nat) : W.frozen? ⟨b, i, none⟩ = false := by simp [World.frozen?, show W.heap[b]? = _ from h]
theorem BxO.kept {W W' : World} {b : Nat} {cs : Array Value} {t : TypeId} {row : Option Nat} (h : BxO W b cs t) (hg : W.grownBy W' row) (hne : some b ≠ row) : BxO W' b cs t := (hg.block b h.lt hne).trans h
theorem bxo_own {β : Type} (b : Nat) (cs : Array Value) (t : TypeId) : Own (fun (_ : β) W => BxO W b cs t) := fun s X Y row hs hg hrow =>
  hs.kept hg (fun e' => by obtain ⟨o, ho, hc⟩ := hrow b e'.symm; rw [show X.heap[b]? = _ from hs] at ho; cases ho; cases hc)
theorem BxO.new (W : World) (cs : Array Value) (t : TypeId) : BxO (W.alloc (.cells cs t)) W.heap.size cs t := World.alloc_heap_new W _
theorem BxO.alloc {W : World} {b : Nat} {cs : Array Value} {t : TypeId} (h : BxO W b cs t) (o : Obj) : BxO (W.alloc o) b cs t := h.kept (World.grownBy_alloc W o none) (by simp)
theorem BxO.other {W : World} {b : Nat} {cs : Array Value} {t : TypeId} (h : BxO W b cs t) {b' : Nat} (hne : b ≠ b') (i : Nat) (u : Value) : BxO (W.setCell ⟨b', i, none⟩ u) b cs t := (Below.heap_setCell _ _ _ _ hne).trans h
theorem BxO.drew {W : World} {b : Nat} {cs : Array Value} {t : TypeId} (h : BxO W b cs t) : BxO W.drew b cs t := h
theorem BxO.set0 {W : World} {b : Nat} {v : Value} {t : TypeId} (h : BxO W b #[v] t) (u : Value) : BxO (W.setCell ⟨b, 0, none⟩ u) b #[u] t := by
  simp [BxO, World.setCell, Array.getElem?_modify, show W.heap[b]? = _ from h]
/-- what lies ahead of the rounds. -/
structure StB (w wx : World) (vr vz vl : Value) (x : Ero) (v : Value) (t r8 : Int) (r9 : ByteArray) : Prop where
  s : BxO wx w.heap.size #[vr, vz, vl] 26
  e : BxO wx (w.heap.size + 1) #[.int .i64 x.off, .string x.rl, .int .i64 x.sv, .string x.fm, .bool x.en, .int .i64 x.yr, .int .i64 x.un.mo, .int .i64 x.un.k, .int .i64 x.un.a, .int .i64 x.un.n, .int .i64 x.un.t, .int .i64 x.un.c] 36
  t : BxO wx (w.heap.size + 2) #[.int .i64 t] 3
  a : BxO wx (w.heap.size + 3) #[.int .i64 r8] 3
  b : BxO wx (w.heap.size + 4) #[.string r9] 9
theorem StB.new (w : World) (vr vz vl : Value) (x : Ero) (v : Value) (t : Int) : StB w (((((w.alloc (.cells #[vr, vz, vl] 26)).alloc (.cells #[.int .i64 x.off, .string x.rl, .int .i64 x.sv, .string x.fm, .bool x.en, .int .i64 x.yr, .int .i64 x.un.mo, .int .i64 x.un.k, .int .i64 x.un.a, .int .i64 x.un.n, .int .i64 x.un.t, .int .i64 x.un.c] 36)).alloc (.cells #[.int .i64 t] 3)).alloc (.cells #[.int .i64 0] 3)).alloc (.cells #[.string ⟨#[]⟩] 9)) vr vz vl x v t 0 ByteArray.empty := by
  have h1 := size_alloc w (.cells #[vr, vz, vl] 26)
  obtain ⟨W1, e1⟩ : ∃ W1, W1 = w.alloc (.cells #[vr, vz, vl] 26) := ⟨_, rfl⟩
  rw [← e1] at h1 ⊢
  have b1 : BxO W1 w.heap.size #[vr, vz, vl] 26 := by rw [e1]; exact BxO.new w _ _
  obtain ⟨W2, e2⟩ : ∃ W2, W2 = W1.alloc (.cells #[.int .i64 x.off, .string x.rl, .int .i64 x.sv, .string x.fm, .bool x.en, .int .i64 x.yr, .int .i64 x.un.mo, .int .i64 x.un.k, .int .i64 x.un.a, .int .i64 x.un.n, .int .i64 x.un.t, .int .i64 x.un.c] 36) := ⟨_, rfl⟩
  have h2 : W2.heap.size = w.heap.size + 2 := by rw [e2, size_alloc, h1]
  have b2 : BxO W2 (w.heap.size + 1) #[.int .i64 x.off, .string x.rl, .int .i64 x.sv, .string x.fm, .bool x.en, .int .i64 x.yr, .int .i64 x.un.mo, .int .i64 x.un.k, .int .i64 x.un.a, .int .i64 x.un.n, .int .i64 x.un.t, .int .i64 x.un.c] 36 := by rw [e2, ← h1]; exact BxO.new W1 _ _
  have b1 : BxO W2 w.heap.size #[vr, vz, vl] 26 := by rw [e2]; exact b1.alloc _
  rw [← e2]
  obtain ⟨W3, e3⟩ : ∃ W3, W3 = W2.alloc (.cells #[.int .i64 t] 3) := ⟨_, rfl⟩
  have h3 : W3.heap.size = w.heap.size + 3 := by rw [e3, size_alloc, h2]
  have b3 : BxO W3 (w.heap.size + 2) #[.int .i64 t] 3 := by rw [e3, ← h2]; exact BxO.new W2 _ _
  have b1 := b1.alloc (.cells #[.int .i64 t] 3); rw [← e3] at b1
  have b2 := b2.alloc (.cells #[.int .i64 t] 3); rw [← e3] at b2
  rw [← e3]
  obtain ⟨W4, e4⟩ : ∃ W4, W4 = W3.alloc (.cells #[.int .i64 0] 3) := ⟨_, rfl⟩
  have h4 : W4.heap.size = w.heap.size + 4 := by rw [e4, size_alloc, h3]
  have b4 : BxO W4 (w.heap.size + 3) #[.int .i64 0] 3 := by rw [e4, ← h3]; exact BxO.new W3 _ _
  have b1 := b1.alloc (.cells #[.int .i64 0] 3); rw [← e4] at b1
  have b2 := b2.alloc (.cells #[.int .i64 0] 3); rw [← e4] at b2
  have b3 := b3.alloc (.cells #[.int .i64 0] 3); rw [← e4] at b3
  rw [← e4]
  exact ⟨b1.alloc _, b2.alloc _, b3.alloc _, b4.alloc _, by rw [← h4]; exact BxO.new W4 _ _⟩
theorem stb_own {β : Type} (w : World) (vr vz vl : Value) (x : Ero) (v : Value) (t r8 : Int) (r9 : ByteArray) : Own (fun (_ : β) W => StB w W vr vz vl x v t r8 r9) := fun s X Y row hs hg hr =>
  ⟨bxo_own _ _ _ s X Y row hs.s hg hr, bxo_own _ _ _ s X Y row hs.e hg hr, bxo_own _ _ _ s X Y row hs.t hg hr, bxo_own _ _ _ s X Y row hs.a hg hr, bxo_own _ _ _ s X Y row hs.b hg hr⟩
theorem StB.all {w W W' : World} {vr vz vl : Value} {x : Ero} {v : Value} {t r8 : Int} {r9 : ByteArray} (h : StB w W vr vz vl x v t r8 r9) (hb : ∀ k, k < w.heap.size + 5 → W'.heap[k]? = W.heap[k]?) : StB w W' vr vz vl x v t r8 r9 :=
  ⟨(hb _ (by omega)).trans h.s, (hb _ (by omega)).trans h.e, (hb _ (by omega)).trans h.t, (hb _ (by omega)).trans h.a, (hb _ (by omega)).trans h.b⟩
theorem StB.put {w W : World} {vr vz vl : Value} {x : Ero} {v : Value} {t r8 : Int} {r9 : ByteArray} (h : StB w W vr vz vl x v t r8 r9) (a : Int) (b : ByteArray) : StB w ((W.setCell ⟨w.heap.size + 3, 0, none⟩ (.int .i64 a)).setCell ⟨w.heap.size + 4, 0, none⟩ (.string b)) vr vz vl x v t a b :=
  ⟨(h.s.other (by omega) _ _).other (by omega) _ _, (h.e.other (by omega) _ _).other (by omega) _ _, (h.t.other (by omega) _ _).other (by omega) _ _, (h.a.set0 _).other (by omega) _ _, (h.b.other (by omega) _ _).set0 _⟩
/-- the rounds that have been have not told. -/
def NoC (T : List Trn) (t : Int) (pre : List (Fin T.length)) : Prop := ∀ k ∈ pre, ¬ T[k.1].ins ≤ t
set_option maxRecDepth 100000 in
set_option maxHeartbeats 4000000 in
theorem state_any (s : Src) (x : Ero) (t : Int) (vr vz vl v : Value) (T : List Trn) (w : World) (hs : SrcAt w vr vz vl s) (hv : SlAt w 4 RChg v T) :
    Calls Tryd.prog 35 #[.agg #[vr, vz, vl], .agg #[.int .i64 x.off, .string x.rl, .int .i64 x.sv, .string x.fm, .bool x.en, .int .i64 x.yr, .int .i64 x.un.mo, .int .i64 x.un.k, .int .i64 x.un.a, .int .i64 x.un.n, .int .i64 x.un.t, .int .i64 x.un.c], v, .int .i64 t] w fun e w' => e = .returned (.tuple #[.int .i64 (stL s.rules x T t).1, .string (stL s.rules x T t).2]) ∧ Below w.heap.size w w' := by
  obtain ⟨av, cv, rfl, hl⟩ := hv.shape
  have HV := Lib.hid hv
  have HS := Lib.hid hs
  have S0 := Lib.hid (StB.new w vr vz vl x (.slice av T.length cv) t)
  have hB0 : Below w.heap.size w (((((w.alloc (.cells #[vr, vz, vl] 26)).alloc (.cells #[.int .i64 x.off, .string x.rl, .int .i64 x.sv, .string x.fm, .bool x.en, .int .i64 x.yr, .int .i64 x.un.mo, .int .i64 x.un.k, .int .i64 x.un.a, .int .i64 x.un.n, .int .i64 x.un.t, .int .i64 x.un.c] 36)).alloc (.cells #[.int .i64 t] 3)).alloc (.cells #[.int .i64 0] 3)).alloc (.cells #[.string ⟨#[]⟩] 9)) :=
    ((((( (Below.refl _ w).alloc (Nat.le_refl _) _).alloc (by simp) _).alloc (by simp; omega) _).alloc (by simp; omega) _).alloc (by simp; omega) _)
  obtain ⟨W0, hW0⟩ : ∃ W0, W0 = (((((w.alloc (.cells #[vr, vz, vl] 26)).alloc (.cells #[.int .i64 x.off, .string x.rl, .int .i64 x.sv, .string x.fm, .bool x.en, .int .i64 x.yr, .int .i64 x.un.mo, .int .i64 x.un.k, .int .i64 x.un.a, .int .i64 x.un.n, .int .i64 x.un.t, .int .i64 x.un.c] 36)).alloc (.cells #[.int .i64 t] 3)).alloc (.cells #[.int .i64 0] 3)).alloc (.cells #[.string ⟨#[]⟩] 9)) := ⟨_, rfl⟩
  rw [← hW0] at S0 hB0
  have HB0 := Lib.hid hB0
  have HW := Lib.hid hW0
  clear hs hv hl hB0 hW0
  refine (callsIn_wide (n := 6)).1 ?_
  refine callsIn_of_wp_marks Tryd.func35 rfl trivial ?_ rfl
  simp only [Tryd.ntmps35, List.size_toArray, List.length_cons, List.length_nil, Nat.reduceAdd, Nat.reduceSub, Array.replicate_succ, Array.replicate_zero, List.push_toArray, List.append_toArray, List.nil_append, List.cons_append]
  by_cases hem : x.rl = ByteArray.empty
  · have r1 : x.rl.toList = [] := by rw [hem]; exact (toList_nil_iff_emptyBytes _).2 rfl
    have r2 : x.rl.toList.isEmpty = true := by rw [r1]; rfl
    have HR : Hid (stL s.rules x T t = (x.sv, ByteArray.empty)) := by show _ = _; unfold stL; rw [if_pos hem]
    clear hem
    have c1 : W0.cell? ⟨w.heap.size + 1, 1, none⟩ = some (.string x.rl) := S0.out.e.cell 1
    have c2 : W0.cell? ⟨w.heap.size + 1, 2, none⟩ = some (.int .i64 x.sv) := S0.out.e.cell 2
    have c3 : W0.cell? ⟨w.heap.size + 1 + 1 + 1, 0, none⟩ = some (.int .i64 0) := S0.out.a.cell 0
    have c4 : W0.cell? ⟨w.heap.size + 1 + 1 + 1 + 1, 0, none⟩ = some (.string ⟨#[]⟩) := S0.out.b.cell 0
    have f3 : W0.frozen? ⟨w.heap.size + 1 + 1 + 1, 0, none⟩ = false := S0.out.a.frozen 0
    have f4 : W0.frozen? ⟨w.heap.size + 1 + 1 + 1 + 1, 0, none⟩ = false := S0.out.b.frozen 0
    have z4 : w.heap.size + 1 + 1 + 1 + 1 < W0.heap.size := S0.out.b.lt
    rw [HW.out] at c1 c2 c3 c4 f3 f4 z4
    gi_wp2
    refine ⟨.tuple #[.int .i64 x.sv, .string ⟨#[]⟩], by simp [results, Tryd.results35, go_sem], ?_⟩
    exact ⟨by rw [HR.out]; rfl, ((((( (Below.refl _ w).alloc (Nat.le_refl _) _).alloc (by simp) _).alloc (by simp; omega) _).alloc (by simp; omega) _).alloc (by simp; omega) _)⟩
  · obtain ⟨e1, e2⟩ := rl_ne hem
    have HR : Hid (∀ o, lastT T t = o → stL s.rules x T t = match o with | some c => (c.r.sv, c.r.lt) | none => (0, firstL s.rules x.rl)) := by
      show ∀ o, _ → _
      intro o ho
      unfold stL
      rw [if_neg hem, ho]
      cases o <;> rfl
    clear hem
    have c1 : W0.cell? ⟨w.heap.size + 1, 1, none⟩ = some (.string x.rl) := S0.out.e.cell 1
    rw [HW.out] at c1
    gi_wp2_with (refine ⟨trivial, ?_⟩; gi_at_call 74; refine (backwardC_in Fence.wide _ trivial rfl _ _ _ _).mono ?_; rintro e w' ⟨rfl, rfl⟩)
    have hz0 : W0.heap.size = w.heap.size + 1 + 1 + 1 + 1 + 1 := by rw [HW.out]; simp
    have S1 : StB w (W0.alloc (.cells #[.slice av T.length cv] 81)) vr vz vl x (.slice av T.length cv) t 0 ByteArray.empty := ⟨S0.out.s.alloc _, S0.out.e.alloc _, S0.out.t.alloc _, S0.out.a.alloc _, S0.out.b.alloc _⟩
    have hY0 := Boxed.new W0 81 (.slice av T.length cv)
    have hB1 : Below w.heap.size w (W0.alloc (.cells #[.slice av T.length cv] 81)) := HB0.out.alloc (by omega) _
    have hz1 : (W0.alloc (.cells #[.slice av T.length cv] 81)).heap.size = w.heap.size + 1 + 1 + 1 + 1 + 1 + 1 := by rw [size_alloc, hz0]
    rw [hz0] at hY0
    rw [← HW.out]
    generalize W0.alloc (.cells #[.slice av T.length cv] 81) = W1 at *
    clear c1 S0 HB0 HW
    have hst := backwardC_stops Fence.wide 5 trivial rfl (by decide) (w.heap.size + 1 + 1 + 1 + 1 + 1) w.heap.size 81 _ T W1 (by omega) (by omega) hY0 (fun W' h => HV.out.mono (hB1.trans h) fun _ _ h => h)
    refine wpIn_rangeFunc_ownH rfl (by decide) (gf := 109) (lb := #[.pointer (some ⟨w.heap.size + 1 + 1 + 1 + 1 + 1, 0, none⟩)]) rfl trivial (enters_of Tryd.func109 (by kernel_rfl) rfl)
      hst KpC.trans (fun W l o o' hl ho hc hw => ⟨belowK_b (w := w) (Nat.le_refl _) W l o o' (by omega) ho hc hw, fun q hq => (World.putObj_heap_other (by omega)).trans hq⟩) (Below.refl _ _) (fun _ => rfl)
      (fun pre W => (StB w W vr vz vl x (.slice av T.length cv) t 0 ByteArray.empty ∧ NoC T t pre) ∧ Below w.heap.size w W)
      (fun c pre W => (∃ pre0 k, pre = pre0 ++ [k] ∧ NoC T t pre0 ∧ T[k.1].ins ≤ t ∧ c = Code.ret ∧ StB w W vr vz vl x (.slice av T.length cv) t T[k.1].r.sv T[k.1].r.lt) ∧ Below w.heap.size w W)
      (OwnFrom.and (Own.from (fun s X Y row hs hg hr => ⟨stb_own w vr vz vl x _ t 0 _ s X Y row hs.1 hg hr, hs.2⟩) _) (ownFrom_below (Nat.le_refl _) (by omega)))
      (fun c => OwnFrom.and (Own.from (fun s X Y row hs hg hr => by obtain ⟨p, k, h1, h2, h3, h4, h5⟩ := hs; exact ⟨p, k, h1, h2, h3, h4, stb_own w vr vz vl x _ t _ _ s X Y row h5 hg hr⟩) _) (ownFrom_below (Nat.le_refl _) (by omega)))
      ⟨⟨S1, fun k hk => by cases hk⟩, hB1⟩
      (fun k a' W => ∃ Bx, w.heap.size + 4 < Bx ∧ BxO W Bx #[.int .i64 T[k.1].no, .int .i64 T[k.1].ins, .int .i64 T[k.1].r.sv, .string T[k.1].r.lt] 114 ∧ a' = { tmps := #[.agg #[vr, vz, vl], .agg #[.int .i64 x.off, .string x.rl, .int .i64 x.sv, .string x.fm, .bool x.en, .int .i64 x.yr, .int .i64 x.un.mo, .int .i64 x.un.k, .int .i64 x.un.a, .int .i64 x.un.n, .int .i64 x.un.t, .int .i64 x.un.c], .slice av T.length cv, .int .i64 t, .pointer (some ⟨w.heap.size, 0, none⟩), .pointer (some ⟨w.heap.size + 1, 0, none⟩), undef, .pointer (some ⟨w.heap.size + 1 + 1, 0, none⟩), .pointer (some ⟨w.heap.size + 1 + 1 + 1, 0, none⟩), .pointer (some ⟨w.heap.size + 1 + 1 + 1 + 1, 0, none⟩), undef, .pointer (some ⟨Bx, 0, none⟩), .pointer (some ⟨w.heap.size + 1, 1, none⟩), .string x.rl, .bool false, undef, undef, .slice av T.length cv, .func (.func 109) #[] #[.pointer (some ⟨w.heap.size + 1 + 1 + 1 + 1 + 1, 0, none⟩)], .int .i64 (k.1 : Int), chgV T[k.1], undef, undef, undef, undef, undef, undef, undef, undef, undef, undef, undef], defers := [] })
      (fun k a' _ X Y row hs hg hr => by obtain ⟨Bx, h1, h2, h3⟩ := hs; exact ⟨Bx, h1, bxo_own (β := Unit) Bx _ _ () X Y row h2 hg (fun r e => (hr r e).2), h3⟩)
      ?assign ?body ?done ?stop
    case assign =>
      rintro l pre k W K ⟨⟨hS1, hN1⟩, hB2⟩ hK
      have hlt := hS1.b.lt
      have hle := hB2.size
      unfold bkC chgV
      gi_wp2
      exact hK _ _ ((KeepsOthers.alloc _ _).from _) ⟨(Below.refl _ W).alloc (by omega) _, fun o ho => (Below.heap_alloc _ _ _ (Array.getElem?_eq_some_iff.1 ho).1).trans ho⟩ ⟨⟨⟨hS1.s.alloc _, hS1.e.alloc _, hS1.t.alloc _, hS1.a.alloc _, hS1.b.alloc _⟩, hN1⟩, hB2.alloc (by omega) _⟩ ⟨W.heap.size, by omega, BxO.new W _ _, rfl⟩
    case body =>
      rintro l pre k a' W hl ⟨r, hr⟩ ⟨⟨hS1, hN1⟩, hB2⟩ ⟨Bx, hBx, hX, rfl⟩ hlt
      have c1 : W.cell? ⟨Bx, 1, none⟩ = some (.int .i64 T[k.1].ins) := hX.cell 1
      have ct : W.cell? ⟨w.heap.size + 1 + 1, 0, none⟩ = some (.int .i64 t) := hS1.t.cell 0
      have HS1 := Lib.hid hS1
      have HN1 := Lib.hid hN1
      have HB2 := Lib.hid hB2
      have HX := Lib.hid hX
      clear hS1 hN1 hB2 hX
      by_cases hc : T[k.1].ins ≤ t
      · have HC := Lib.hid hc
        have c2 : W.cell? ⟨Bx, 2, none⟩ = some (.int .i64 T[k.1].r.sv) := HX.out.cell 2
        have c3 : W.cell? ⟨Bx, 3, none⟩ = some (.string T[k.1].r.lt) := HX.out.cell 3
        have ca : W.cell? ⟨w.heap.size + 1 + 1 + 1, 0, none⟩ = some (.int .i64 0) := HS1.out.a.cell 0
        have cb : W.cell? ⟨w.heap.size + 1 + 1 + 1 + 1, 0, none⟩ = some (.string ⟨#[]⟩) := HS1.out.b.cell 0
        have fa : W.frozen? ⟨w.heap.size + 1 + 1 + 1, 0, none⟩ = false := HS1.out.a.frozen 0
        have fb : W.frozen? ⟨w.heap.size + 1 + 1 + 1 + 1, 0, none⟩ = false := HS1.out.b.frozen 0
        have za : w.heap.size + 1 + 1 + 1 < W.heap.size := HS1.out.a.lt
        have zb : w.heap.size + 1 + 1 + 1 + 1 < W.heap.size := HS1.out.b.lt
        generalize hy : T[k.1] = y at *
        have HY := Lib.hid hy
        clear hy
        gi_wp2
        refine regionC_round (S := fun w' => w'.cell? ⟨Bx, 2, none⟩ = some (.int .i64 y.r.sv) ∧ w'.cell? ⟨Bx, 3, none⟩ = some (.string y.r.lt)) (by kernel_rfl) (by kernel_rfl) (fun _ _ h => h) ?_
        have HSq : (fun w' : World => w'.cell? ⟨Bx, 2, none⟩ = some (.int .i64 y.r.sv) ∧ w'.cell? ⟨Bx, 3, none⟩ = some (.string y.r.lt)) W.drew := ⟨c2, c3⟩
        refine wpAnyH_take (i := 0) (oi := ⟨some 25, Op.fieldAddr 114 (.tmp 11) 2, _, _, _, none⟩) (v := .pointer (some ⟨Bx, 2, none⟩)) rfl (by kernel_rfl) (by kernel_rfl) (by kernel_rfl) (fun _ _ _ h => h) (Or.inl ⟨by rfl, ?_⟩) HSq ?_
        · intro w' hSw
          try dsimp only at hSw
          go_simp
        simp only [Act.put, List.setIfInBounds_toArray, List.set_cons_zero, List.set_cons_succ]
        refine wpAnyH_take (i := 2) (oi := ⟨some 27, Op.fieldAddr 114 (.tmp 11) 3, _, _, _, none⟩) (v := .pointer (some ⟨Bx, 3, none⟩)) rfl (by kernel_rfl) (by kernel_rfl) (by kernel_rfl) (fun _ _ _ h => h) (Or.inl ⟨by rfl, ?_⟩) HSq ?_
        · intro w' hSw
          try dsimp only at hSw
          go_simp
        simp only [Act.put, List.setIfInBounds_toArray, List.set_cons_zero, List.set_cons_succ]
        refine wpAnyH_take (i := 1) (oi := ⟨some 26, Op.load 3 (.tmp 25), _, _, _, none⟩) (v := .int .i64 y.r.sv) rfl (by kernel_rfl) (by kernel_rfl) (by kernel_rfl) (fun _ _ _ h => h) (Or.inl ⟨by rfl, ?_⟩) HSq ?_
        · intro w' hSw
          try dsimp only at hSw
          go_simp
        simp only [Act.put, List.setIfInBounds_toArray, List.set_cons_zero, List.set_cons_succ]
        refine wpAnyH_take (i := 3) (oi := ⟨some 28, Op.load 9 (.tmp 27), _, _, _, none⟩) (v := .string y.r.lt) rfl (by kernel_rfl) (by kernel_rfl) (by kernel_rfl) (fun _ _ _ h => h) (Or.inl ⟨by rfl, ?_⟩) HSq ?_
        · intro w' hSw
          try dsimp only at hSw
          go_simp
        simp only [Act.put, List.setIfInBounds_toArray, List.set_cons_zero, List.set_cons_succ]
        refine wpAnyH_ready (rs := [4]) (by kernel_rfl) (by simp) ?_
        refine AllReadyH.cons (o := ⟨none, Op.store 3 (.tmp 8) (.tmp 26), _, _, _, none⟩) rfl (fun K hK => ?_) AllReadyH.nil
        go_simp
        have S2 : StB w (W.setCell ⟨w.heap.size + 1 + 1 + 1, 0, none⟩ (.int .i64 y.r.sv)).drew vr vz vl x (.slice av T.length cv) t y.r.sv ByteArray.empty :=
          ⟨HS1.out.s.other (by omega) _ _, HS1.out.e.other (by omega) _ _, HS1.out.t.other (by omega) _ _, HS1.out.a.set0 _, HS1.out.b.other (by omega) _ _⟩
        have k1 := (KeepsOthers.setCell W ⟨w.heap.size + 1 + 1 + 1, 0, none⟩ (.int .i64 y.r.sv)).trans (KeepsOthers.drew _)
        have kb1 : Below w.heap.size W (W.setCell ⟨w.heap.size + 1 + 1 + 1, 0, none⟩ (.int .i64 y.r.sv)).drew := ((Below.refl _ W).setCell (p := ⟨w.heap.size + 1 + 1 + 1, 0, none⟩) (by show w.heap.size ≤ w.heap.size + 1 + 1 + 1; omega) _).drew
        have hX2 : BxO (W.setCell ⟨w.heap.size + 1 + 1 + 1, 0, none⟩ (.int .i64 y.r.sv)).drew Bx #[.int .i64 y.no, .int .i64 y.ins, .int .i64 y.r.sv, .string y.r.lt] 114 := HX.out.other (b' := w.heap.size + 1 + 1 + 1) (by omega) 0 (.int .i64 y.r.sv)
        have HS2 : (fun w' : World => w'.cell? ⟨Bx, 2, none⟩ = some (.int .i64 y.r.sv) ∧ w'.cell? ⟨Bx, 3, none⟩ = some (.string y.r.lt)) (W.setCell ⟨w.heap.size + 1 + 1 + 1, 0, none⟩ (.int .i64 y.r.sv)).drew := ⟨hX2.cell 2, hX2.cell 3⟩
        generalize (W.setCell ⟨w.heap.size + 1 + 1 + 1, 0, none⟩ (.int .i64 y.r.sv)).drew = W2 at *
        refine hK.out _ _ HS2 (fun hHeld => ?_)
        clear hK K
        have cb2 : W2.cell? ⟨w.heap.size + 1 + 1 + 1 + 1, 0, none⟩ = some (.string ⟨#[]⟩) := S2.b.cell 0
        have fb2 : W2.frozen? ⟨w.heap.size + 1 + 1 + 1 + 1, 0, none⟩ = false := S2.b.frozen 0
        have zb2 : w.heap.size + 1 + 1 + 1 + 1 < W2.heap.size := S2.b.lt
        refine wpAnyH_ready (rs := [5]) (by kernel_rfl) (by simp) ?_
        refine AllReadyH.cons (o := ⟨none, Op.store 9 (.tmp 9) (.tmp 28), _, _, _, none⟩) rfl (fun K hK => ?_) AllReadyH.nil
        go_simp
        have S3 : StB w (W2.setCell ⟨w.heap.size + 1 + 1 + 1 + 1, 0, none⟩ (.string y.r.lt)) vr vz vl x (.slice av T.length cv) t y.r.sv y.r.lt :=
          ⟨S2.s.other (by omega) _ _, S2.e.other (by omega) _ _, S2.t.other (by omega) _ _, S2.a.other (by omega) _ _, S2.b.set0 _⟩
        have k2 := k1.trans (KeepsOthers.setCell W2 ⟨w.heap.size + 1 + 1 + 1 + 1, 0, none⟩ (.string y.r.lt))
        have kb2 := kb1.setCell (p := ⟨w.heap.size + 1 + 1 + 1 + 1, 0, none⟩) (by show w.heap.size ≤ w.heap.size + 1 + 1 + 1 + 1; omega) (.string y.r.lt)
        have HS3 : (fun w' : World => w'.cell? ⟨Bx, 2, none⟩ = some (.int .i64 y.r.sv) ∧ w'.cell? ⟨Bx, 3, none⟩ = some (.string y.r.lt)) (W2.setCell ⟨w.heap.size + 1 + 1 + 1 + 1, 0, none⟩ (.string y.r.lt)) :=
          ⟨(hX2.other (b' := w.heap.size + 1 + 1 + 1 + 1) (by omega) 0 (.string y.r.lt)).cell 2, (hX2.other (b' := w.heap.size + 1 + 1 + 1 + 1) (by omega) 0 (.string y.r.lt)).cell 3⟩
        generalize W2.setCell ⟨w.heap.size + 1 + 1 + 1 + 1, 0, none⟩ (.string y.r.lt) = W3 at *
        refine hK.out _ _ HS3 (fun hHeld => ?_)
        clear hK K
        refine wpAnyH_done (by kernel_rfl) ?_ _
        gi_wp2
        exact ⟨k2.from _, ⟨pre, k, rfl, HN1.out, by rw [HY.out]; exact HC.out, rfl, by rw [HY.out]; exact S3⟩, HB2.out.trans kb2⟩
      · have HC := Lib.hid hc
        have HNN : Hid (NoC T t (pre ++ [k])) := by
          show NoC _ _ _
          intro q hq
          rcases List.mem_append.1 hq with h | h
          · exact HN1.out q h
          · rw [List.mem_singleton.1 h]; exact hc
        generalize T[k.1] = y at *
        gi_wp2
        exact ⟨KeepsFrom.refl _ _, KpC.refl _ _ _, ⟨HS1.out, HNN.out⟩, HB2.out⟩
    case done =>
      rintro D zs W hD hSz ⟨⟨hS1, hN1⟩, hB2⟩ hK
      have HR2 : Hid (stL s.rules x T t = (0, firstL s.rules x.rl)) := HR.out none (lastT_none fun j hj => hN1 _ (hSz.all j hj))
      have q0 : W.cell? ⟨w.heap.size, 0, none⟩ = some vr := hS1.s.cell 0
      have q1 : W.cell? ⟨w.heap.size, 1, none⟩ = some vz := hS1.s.cell 1
      have q2 : W.cell? ⟨w.heap.size, 2, none⟩ = some vl := hS1.s.cell 2
      have g0 : W.cell? ⟨w.heap.size + 1, 0, none⟩ = some (.int .i64 x.off) := hS1.e.cell 0
      have g1 : W.cell? ⟨w.heap.size + 1, 1, none⟩ = some (.string x.rl) := hS1.e.cell 1
      have g2 : W.cell? ⟨w.heap.size + 1, 2, none⟩ = some (.int .i64 x.sv) := hS1.e.cell 2
      have g3 : W.cell? ⟨w.heap.size + 1, 3, none⟩ = some (.string x.fm) := hS1.e.cell 3
      have g4 : W.cell? ⟨w.heap.size + 1, 4, none⟩ = some (.bool x.en) := hS1.e.cell 4
      have g5 : W.cell? ⟨w.heap.size + 1, 5, none⟩ = some (.int .i64 x.yr) := hS1.e.cell 5
      have g6 : W.cell? ⟨w.heap.size + 1, 6, none⟩ = some (.int .i64 x.un.mo) := hS1.e.cell 6
      have g7 : W.cell? ⟨w.heap.size + 1, 7, none⟩ = some (.int .i64 x.un.k) := hS1.e.cell 7
      have g8 : W.cell? ⟨w.heap.size + 1, 8, none⟩ = some (.int .i64 x.un.a) := hS1.e.cell 8
      have g9 : W.cell? ⟨w.heap.size + 1, 9, none⟩ = some (.int .i64 x.un.n) := hS1.e.cell 9
      have g10 : W.cell? ⟨w.heap.size + 1, 10, none⟩ = some (.int .i64 x.un.t) := hS1.e.cell 10
      have g11 : W.cell? ⟨w.heap.size + 1, 11, none⟩ = some (.int .i64 x.un.c) := hS1.e.cell 11
      have HFI := Lib.hid (first_any_z s x vr vz vl W (HS.out.mono hB2))
      have HS1 := Lib.hid hS1
      have HB2 := Lib.hid hB2
      have HK := Lib.hid hK
      have HDz : Hid (w.heap.size + 5 < D) := Lib.hid (by omega)
      clear hS1 hN1 hB2 hK hSz HR hst hY0 hz1 hz0 hD hB1 S1
      gi_wp2_with (refine ⟨trivial, ?_⟩; gi_at_call 75; refine (callsIn_wide.2 HFI.out).mono ?_; rintro e w2 ⟨rfl, hb2⟩; have S2 := Lib.hid (HS1.out.all fun k hk => hb2.block k (Nat.lt_of_lt_of_le (by omega) HS1.out.b.lt)); have K2 := Lib.hid ((hb2.block D (Array.getElem?_eq_some_iff.1 HK.out).1).trans HK.out); have B2 := Lib.hid (HB2.out.trans (hb2.mono HB2.out.size)); clear hb2 q0 q1 q2 g0 g1 g2 g3 g4 g5 g6 g7 g8 g9 g10 g11; have ca : w2.cell? ⟨w.heap.size + 1 + 1 + 1, 0, none⟩ = some (.int .i64 0) := S2.out.a.cell 0; have cb : w2.cell? ⟨w.heap.size + 1 + 1 + 1 + 1, 0, none⟩ = some (.string ⟨#[]⟩) := S2.out.b.cell 0; have fa : w2.frozen? ⟨w.heap.size + 1 + 1 + 1, 0, none⟩ = false := S2.out.a.frozen 0; have fb : w2.frozen? ⟨w.heap.size + 1 + 1 + 1 + 1, 0, none⟩ = false := S2.out.b.frozen 0; have za : w.heap.size + 1 + 1 + 1 < w2.heap.size := S2.out.a.lt; have zb : w.heap.size + 1 + 1 + 1 + 1 < w2.heap.size := S2.out.b.lt)
      have hSF : StB w ((w2.setCell ⟨w.heap.size + 1 + 1 + 1, 0, none⟩ (.int .i64 0)).setCell ⟨w.heap.size + 1 + 1 + 1 + 1, 0, none⟩ (.string (firstL s.rules x.rl))) vr vz vl x (.slice av T.length cv) t 0 (firstL s.rules x.rl) := S2.out.put 0 _
      have hKF : ((w2.setCell ⟨w.heap.size + 1 + 1 + 1, 0, none⟩ (.int .i64 0)).setCell ⟨w.heap.size + 1 + 1 + 1 + 1, 0, none⟩ (.string (firstL s.rules x.rl))).heap[D]? = some (.deferred (some [])) := (Below.heap_setCell _ _ _ _ (by have := HDz.out; show D ≠ w.heap.size + 1 + 1 + 1 + 1; omega)).trans ((Below.heap_setCell _ _ _ _ (by have := HDz.out; show D ≠ w.heap.size + 1 + 1 + 1; omega)).trans K2.out)
      have hBF : Below w.heap.size w ((w2.setCell ⟨w.heap.size + 1 + 1 + 1, 0, none⟩ (.int .i64 0)).setCell ⟨w.heap.size + 1 + 1 + 1 + 1, 0, none⟩ (.string (firstL s.rules x.rl))) := (B2.out.setCell (p := ⟨w.heap.size + 1 + 1 + 1, 0, none⟩) (by show w.heap.size ≤ w.heap.size + 1 + 1 + 1; omega) _).setCell (p := ⟨w.heap.size + 1 + 1 + 1 + 1, 0, none⟩) (by show w.heap.size ≤ w.heap.size + 1 + 1 + 1 + 1; omega) _
      generalize (w2.setCell ⟨w.heap.size + 1 + 1 + 1, 0, none⟩ (.int .i64 0)).setCell ⟨w.heap.size + 1 + 1 + 1 + 1, 0, none⟩ (.string (firstL s.rules x.rl)) = WF at *
      have hq := hSF.all (W' := WF.putObj D (.deferred none)) fun k hk => World.putObj_heap_other (by have := HDz.out; omega)
      have qa : (WF.putObj D (.deferred none)).cell? ⟨w.heap.size + 1 + 1 + 1, 0, none⟩ = some (.int .i64 0) := hq.a.cell 0
      have qb : (WF.putObj D (.deferred none)).cell? ⟨w.heap.size + 1 + 1 + 1 + 1, 0, none⟩ = some (.string (firstL s.rules x.rl)) := hq.b.cell 0
      refine ⟨by simp, .inl ⟨_, _, rfl, run_takeDeferred hKF, ?_⟩⟩
      refine ⟨.tuple #[.int .i64 0, .string (firstL s.rules x.rl)], by simp [results, Tryd.results35, go_sem, qa, qb], ?_⟩
      exact ⟨by rw [HR2.out], hBF.trans (belowK_b (w := w) (Nat.le_refl _) WF D _ _ (by have := HDz.out; omega) hKF rfl rfl)⟩
    case stop =>
      rintro D c pre WF hD ⟨j, hj⟩ ⟨⟨pre0, k, rfl, hN0, hki, rfl, hSF⟩, hBF⟩ hKF
      obtain ⟨hkj, hall⟩ := hj.last
      have HR2 : Hid (stL s.rules x T t = (T[k.1].r.sv, T[k.1].r.lt)) := HR.out _ (lastT_at k.2 hki fun i hi h => hN0 _ (hall i hi (by omega)))
      have HDz : Hid (w.heap.size + 5 < D) := Lib.hid (by omega)
      clear hj hall hN0 HR hst hY0 hz1 hz0 hD hB1 S1
      generalize T[k.1] = y at *
      gi_wp2
      have hq := hSF.all (W' := WF.putObj D (.deferred none)) fun k hk => World.putObj_heap_other (by have := HDz.out; omega)
      have qa : (WF.putObj D (.deferred none)).cell? ⟨w.heap.size + 1 + 1 + 1, 0, none⟩ = some (.int .i64 y.r.sv) := hq.a.cell 0
      have qb : (WF.putObj D (.deferred none)).cell? ⟨w.heap.size + 1 + 1 + 1 + 1, 0, none⟩ = some (.string y.r.lt) := hq.b.cell 0
      refine ⟨by simp, .inl ⟨_, _, rfl, run_takeDeferred hKF, ?_⟩⟩
      refine ⟨.tuple #[.int .i64 y.r.sv, .string y.r.lt], by simp [results, Tryd.results35, go_sem, qa, qb], ?_⟩
      exact ⟨by rw [HR2.out], hBF.trans (belowK_b (w := w) (Nat.le_refl _) WF D _ _ (by have := HDz.out; omega) hKF rfl rfl)⟩
end Go.Proofs.YtdpbedkppomffaaDoor
