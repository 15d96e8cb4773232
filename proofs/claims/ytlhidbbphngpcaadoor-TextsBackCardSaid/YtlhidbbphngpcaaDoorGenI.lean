/-
  code.reach.
-/
import Derived.Deep.OwnRows
import Derived.OrdersHeld
import Derived.Deep.RegionHeld3
import Derived.Test.YtlhidbbphngpcaaDoorGenA
import Derived.Test.YtlhidbbphngpcaaDoorGenH
namespace Go.Proofs.YtlhidbbphngpcaaDoor
set_option linter.unusedVariables false
set_option linter.unusedSimpArgs false
open Go.ChangeShapes Go.WideShapes Go.ChangeAt Go.RowKit Go.Shelf
attribute [local go_sem] Oper.semAt_some

/-- an operation in a round, by its law outside. -/
theorem op_round {P : Program} {l n : Nat} {o : Oper} (hd : ∀ c, o.op ≠ .defer c) {a : Act} {w : World} {K K' : Act → World → Prop} {Q : Exit → Act → World → Prop} (hK : ∀ a w, K a w → K' a w) (h : o.wp P a w K Q) : o.wpIn (Fence.wide.inRound l) n P a w K' Q := by
  refine ⟨fun _ _ => trivial, ?_⟩
  rw [Oper.semAt_eq _ _ _ hd]
  unfold Oper.wp at h
  generalize (execOp a.eval o).run P w = r at *
  cases r with
  | ok x w' =>
    cases x <;> simp only [Oper.upon] at h <;> simp only [Oper.uponIn]
    case value => exact hK _ _ h
    case skip => exact hK _ _ h
    case defer => exact hK _ _ h
    case enter f args =>
      refine ⟨(fun e => by cases e), CallsIn.inRound l (callsIn_wide.2 (Calls.mono h fun e w'' he => ?_))⟩
      cases e with
      | returned v => exact hK _ _ he
      | panicked c => exact he
      | outgrown => exact he
    case row row args =>
      exact ⟨(fun e => by cases e), fun c cs _ => let ⟨v, w', r, s⟩ := h c cs; ⟨v, w', hK _ _ r, stepsIn_wide.2 s⟩⟩
  | halt x w' =>
    cases x <;> simp only [Oper.upon] at h <;> simp only [Oper.uponIn]
    case panic => exact h
theorem any_round {P : Program} {l n : Nat} {ops : Array Oper} {md : Region.Mode} {Q : Exit → Act → World → Prop} (hd : ∀ (i : Nat) (o : Oper), ops[i]? = some o → ∀ c, o.op ≠ .defer c) (hL : ∀ a w, ¬ Q .outgrown a w) :
    ∀ (fuel : Nat) (listed : Array Bool) (a : Act) (w : World), wpAny P md ops Q fuel listed a w → wpAnyIn (Fence.wide.inRound l) n P md ops Q fuel listed a w
  | 0, _, _, _, h => h
  | fuel + 1, listed, a, w, h => ⟨h.1, fun i hi => by
    have h2 := h.2 i hi
    unfold wpOp at h2
    unfold wpOpIn
    cases ho : ops[i]? with
    | none =>
      rw [ho] at h2
      exact any_round hd hL fuel _ a w h2
    | some o =>
      rw [ho] at h2
      dsimp only at h2 ⊢
      split
      · rename_i hw
        rw [if_pos hw] at h2
        rcases h2 with h2 | ⟨_, a0, w0, h2⟩
        · exact op_round (hd i o ho) (any_round hd hL fuel _) h2
        · exact absurd h2 (hL _ _)
      · rename_i hw
        rw [if_neg hw] at h2
        exact ⟨fun _ _ => trivial, any_round hd hL fuel _ _ _ h2⟩⟩
def noDefer (o : Oper) : Bool := match o.op with
  | .defer _ => false
  | _ => true
theorem noDefer_at {ops : Array Oper} (h : ops.toList.all noDefer = true) (i : Nat) (o : Oper) (ho : ops[i]? = some o) (c : Call) : o.op ≠ .defer c := by
  intro e
  have := List.all_eq_true.1 h o (Array.mem_toList_iff.2 (Array.mem_of_getElem? ho))
  unfold noDefer at this
  rw [e] at this
  cases this
/-- **a region that draws its order in a round: walked as outside.** -/
theorem region_round {P : Program} {l n id : Nat} {ops : Array Oper} {S : World → Prop} {Q : Exit → Act → World → Prop} {a : Act} {w : World} (hm : P.follows .mixedOrders = true) (hd : ops.toList.all noDefer = true) (hL : ∀ a w, ¬ Q .outgrown a w)
    (h : wpAnyH P .any ops Q S ops.size (Array.replicate ops.size false) a w.drew) : (Code.region id ops true).wpIn (Fence.wide.inRound l) n P Q a w :=
  wpIn_region_any hm (any_round (noDefer_at hd) hL _ _ _ _ (wpAny_of_held _ _ _ _ h))
theorem rch_fold (ns : List Nod) : ∀ (k : Nat) (o : List Bool), rch ns k o = ((List.range' 0 k).reverse).foldl (fun o i => rStep ns i o) o
  | 0, o => rfl
  | k + 1, o => by
    rw [List.range'_concat, List.reverse_append]
    show rch ns k (rStep ns k o) = _
    rw [rch_fold ns k]
    simp
def rO (ns : List Nod) (pre : List (Fin ns.length)) : List Bool := pre.foldl (fun o k => rStep ns k.1 o) ((List.replicate ns.length false).set (ns.length - 1) true)
theorem rO_snoc (ns : List Nod) (pre : List (Fin ns.length)) (x : Fin ns.length) : rO ns (pre ++ [x]) = rStep ns x.1 (rO ns pre) := by simp [rO]
theorem rO_len (ns : List Nod) (pre : List (Fin ns.length)) : (rO ns pre).length = ns.length := by
  unfold rO
  suffices h : ∀ (o : List Bool), (pre.foldl (fun o k => rStep ns k.1 o) o).length = o.length by rw [h]; simp
  induction pre with
  | nil => intro o; rfl
  | cons a l ih => intro o; rw [List.foldl_cons, ih, rStep_len]
theorem rO_done {ns : List Nod} {pre : List (Fin ns.length)} (h : Dn 0 pre) : rO ns pre = reachD ns := by
  have h1 : pre.map (fun k => k.1) = (List.range' 0 ns.length).reverse := h.1
  unfold rO reachD
  rw [rch_fold, ← h1, List.foldl_map]
theorem rowIs_own {β : Type} (b : Nat) (t : TypeId) (n : Nat) (f : β → Nat → Value) : Own (fun s W => W.rowIs b t n (f s)) := fun s X Y row hs hg hrow => by
  refine hs.of_block (hg.block b hs.lt fun e' => ?_)
  obtain ⟨o, ho, hc⟩ := hrow b e'.symm
  obtain ⟨c, hb, _⟩ := hs
  rw [hb] at ho
  cases ho
  cases hc
theorem slAt_rowIs {w : World} {b n : Nat} {t : TypeId} {o : List Bool} (h : w.rowIs b t n (fun k => .bool (askd o k))) (hn : o.length = n) (h0 : 0 < n) (hm : n ≤ maxLen) : SlAt w 1 RBol (.slice (some ⟨b, 0, none⟩) n n) o := by
  subst hn
  refine .inr ⟨b, 0, o.length, rfl, h0, Nat.le_refl _, hm, h.lt, fun i hi => ⟨[.bool o[i]], rfl, rfl, fun j hj => ?_⟩⟩
  obtain rfl : j = 0 := by omega
  have := h.cell hi
  rw [Nat.zero_add, Nat.mul_one, Nat.add_zero, this]
  unfold askd
  rw [List.getD_eq_getElem?_getD, List.getElem?_eq_getElem hi]
  rfl
/-- a node's box. -/
def Nd5 (W : World) (B : Nat) (n : Nod) : Prop := W.cell? ⟨B, 0, none⟩ = some (.bool n.lf) ∧ W.cell? ⟨B, 1, none⟩ = some (.int .i64 n.an) ∧ W.cell? ⟨B, 2, none⟩ = some (.int .i64 n.bd) ∧ W.cell? ⟨B, 3, none⟩ = some (.int .i64 n.ls) ∧ W.cell? ⟨B, 4, none⟩ = some (.int .i64 n.mr)
theorem Nd5.own {β : Type} (B : Nat) (n : β → Nod) : Own (fun s W => Nd5 W B (n s)) := fun s X Y row hs hg hr =>
  ⟨cell_kept hs.1 hg hr, cell_kept hs.2.1 hg hr, cell_kept hs.2.2.1 hg hr, cell_kept hs.2.2.2.1 hg hr, cell_kept hs.2.2.2.2 hg hr⟩
theorem nd5_new (W : World) (n : Nod) : Nd5 (W.alloc (.cells #[.bool n.lf, .int .i64 n.an, .int .i64 n.bd, .int .i64 n.ls, .int .i64 n.mr] 90)) W.heap.size n :=
  ⟨World.cell?_alloc_at (w := W) _ _ W.heap.size 0 rfl, World.cell?_alloc_at (w := W) _ _ W.heap.size 1 rfl, World.cell?_alloc_at (w := W) _ _ W.heap.size 2 rfl, World.cell?_alloc_at (w := W) _ _ W.heap.size 3 rfl, World.cell?_alloc_at (w := W) _ _ W.heap.size 4 rfl⟩
theorem rset_at {o : List Bool} {i : Nat} (h : i < o.length) (j : Nat) : (if j = i then Value.bool true else .bool (askd o j)) = .bool (askd (o.set i true) j) := by
  rw [askd_set]
  by_cases e : j = i
  · subst e
    rw [if_pos rfl, if_pos ⟨rfl, h⟩]
  · rw [if_neg e, if_neg (fun q => e q.1.symm)]
theorem info_bool : (Tryd.prog.info? 4).map (fun i => (i.zero, i.size, i.bytes)) = some (some (.bool false), 1, 1) := by kernel_rfl
theorem row_start (W : World) (ns : List Nod) (h0 : 0 < ns.length) (t : TypeId) : (W.alloc (.cells ((madeCells #[Value.bool false] ns.length).setIfInBounds (ns.length - 1) (.bool true)) t)).rowIs W.heap.size t ns.length (fun k => .bool (askd (rO ns []) k)) := by
  refine ⟨_, World.alloc_heap_new W _, by simp [size_madeCells], fun i hi => ?_⟩
  rw [Array.getElem?_setIfInBounds]
  show _ = some (Value.bool (askd ((List.replicate ns.length false).set (ns.length - 1) true) i))
  rw [askd_set]
  by_cases e : ns.length - 1 = i
  · subst e
    rw [if_pos rfl, if_pos (by rw [size_madeCells]; omega), if_pos ⟨rfl, by rw [List.length_replicate]; omega⟩]
  · rw [if_neg e, if_neg (fun q => e q.1)]
    simp [madeCells, hi, Nat.mod_one, askd]
set_option maxRecDepth 100000 in
set_option maxHeartbeats 4000000 in
theorem reach_any (vn va : Value) (f : Frs) (w : World) (hf : FrsAt w vn va f) (h0 : 0 < f.nodes.length) (h8 : f.nodes.length ≤ 8000) (hc : Chl f.nodes) :
    Calls Tryd.prog 46 #[.agg #[vn, va]] w fun e w' => ∃ b, w.heap.size ≤ b ∧ e = .returned (.slice (some ⟨b, 0, none⟩) f.nodes.length f.nodes.length) ∧ SlAt w' 1 RBol (.slice (some ⟨b, 0, none⟩) f.nodes.length f.nodes.length) (reachD f.nodes) ∧ Below w.heap.size w w' := by
  obtain ⟨av, cv, rfl, hl⟩ := hf.1.shape
  have hm := maxLen_eq _ hl
  have HN : Hid (∀ W', Below w.heap.size w W' → SlAt W' 5 RNod (.slice av f.nodes.length cv) f.nodes) := Lib.hid fun W' h => hf.1.mono h fun _ _ h => h
  obtain ⟨n, hn⟩ : ∃ n, n = f.nodes.length := ⟨_, rfl⟩
  have H0 := Lib.hid h0
  have H8 := Lib.hid h8
  have HC := Lib.hid hc
  have hmk := run_make_row' (P := Tryd.prog) 94 4 (.bool false) 1 Tryd.underlying94 info_bool rfl .i64 .i64 f.nodes.length (by omega) (by omega)
  have hw0 : wrap64 ((f.nodes.length : Int) - 1) = ((f.nodes.length - 1 : Nat) : Int) := by rw [IntWalk.wrap64_in _ (by omega)]; omega
  have hlt1 : ((f.nodes.length - 1 : Nat) : Int) < (f.nodes.length : Int) := by omega
  have hmc : (madeCells #[Value.bool false] f.nodes.length)[f.nodes.length - 1]? = some (.bool false) := by
    have hlt : f.nodes.length - 1 < f.nodes.length := by omega
    simp [madeCells, hlt, Nat.mod_one]
  clear hf hl h0 h8 hc hm
  refine (callsIn_wide (n := 6)).1 ?_
  refine callsIn_of_wp_marks Tryd.func46 rfl trivial ?_ rfl
  simp only [Tryd.ntmps46, List.size_toArray, List.length_cons, List.length_nil, Nat.reduceAdd, Nat.reduceSub, Array.replicate_succ, Array.replicate_zero, List.push_toArray, List.append_toArray, List.nil_append, List.cons_append]
  gi_wp2_with (refine ⟨trivial, ?_⟩; gi_at_call 64; refine (backward_in Fence.wide _ trivial rfl _ _ _ _).mono ?_; rintro e w' ⟨rfl, rfl⟩)
  have bR := (((row_start (w.alloc (.cells #[.slice av f.nodes.length cv, va] 64)) f.nodes H0.out 4).alloc (.cells #[.slice (some ⟨w.heap.size + 1, 0, none⟩) f.nodes.length f.nodes.length] 94)).alloc (.cells #[.slice av f.nodes.length cv] 62))
  have bX := (Boxed.new ((w.alloc (.cells #[.slice av f.nodes.length cv, va] 64)).alloc (.cells ((madeCells #[Value.bool false] f.nodes.length).setIfInBounds (f.nodes.length - 1) (.bool true)) 4)) 94 (.slice (some ⟨w.heap.size + 1, 0, none⟩) f.nodes.length f.nodes.length)).alloc (.cells #[.slice av f.nodes.length cv] 62)
  have bY := Boxed.new (((w.alloc (.cells #[.slice av f.nodes.length cv, va] 64)).alloc (.cells ((madeCells #[Value.bool false] f.nodes.length).setIfInBounds (f.nodes.length - 1) (.bool true)) 4)).alloc (.cells #[.slice (some ⟨w.heap.size + 1, 0, none⟩) f.nodes.length f.nodes.length] 94)) 62 (.slice av f.nodes.length cv)
  have hB0 := (below_alloc2 (Nat.le_refl w.heap.size) (.cells #[.slice av f.nodes.length cv, va] 64) (.cells ((madeCells #[Value.bool false] f.nodes.length).setIfInBounds (f.nodes.length - 1) (.bool true)) 4)).trans (below_alloc2 (by rw [size_alloc, size_alloc]; omega) (.cells #[.slice (some ⟨w.heap.size + 1, 0, none⟩) f.nodes.length f.nodes.length] 94) (.cells #[.slice av f.nodes.length cv] 62))
  have hsz : ((((w.alloc (.cells #[.slice av f.nodes.length cv, va] 64)).alloc (.cells ((madeCells #[Value.bool false] f.nodes.length).setIfInBounds (f.nodes.length - 1) (.bool true)) 4)).alloc (.cells #[.slice (some ⟨w.heap.size + 1, 0, none⟩) f.nodes.length f.nodes.length] 94)).alloc (.cells #[.slice av f.nodes.length cv] 62)).heap.size = w.heap.size + 1 + 1 + 1 + 1 := by rw [size_alloc, size_alloc, size_alloc, size_alloc]
  rw [size_alloc] at bR
  rw [size_alloc, size_alloc] at bX
  rw [size_alloc, size_alloc, size_alloc] at bY
  generalize (((w.alloc (.cells #[.slice av f.nodes.length cv, va] 64)).alloc (.cells ((madeCells #[Value.bool false] f.nodes.length).setIfInBounds (f.nodes.length - 1) (.bool true)) 4)).alloc (.cells #[.slice (some ⟨w.heap.size + 1, 0, none⟩) f.nodes.length f.nodes.length] 94)).alloc (.cells #[.slice av f.nodes.length cv] 62) = W0 at *
  clear hmk hw0 hlt1 hmc
  have hst := backward_stops Fence.wide 5 trivial rfl (by decide) (w.heap.size + 1 + 1 + 1) w.heap.size 62 _ f.nodes W0 (by omega) (by omega) bY (fun W' h => HN.out W' (hB0.trans h))
  refine wpIn_rangeFunc_ownH rfl (by decide) (gf := 81) (lb := #[.pointer (some ⟨w.heap.size + 1 + 1 + 1, 0, none⟩)]) rfl trivial (enters_of Tryd.func81 (by kernel_rfl) rfl)
    hst Kp2.trans (fun W l o o' hl ho hc hw => ⟨belowK_b (w := w) (Nat.le_refl _) W l o o' (by omega) ho hc hw, fun q hq => (World.putObj_heap_other (by omega)).trans hq⟩) (Below.refl _ _) (fun _ => rfl)
    (fun pre W => (W.rowIs (w.heap.size + 1) 4 f.nodes.length (fun k => .bool (askd (rO f.nodes pre) k)) ∧ Boxed W (w.heap.size + 1 + 1) 94 (.slice (some ⟨w.heap.size + 1, 0, none⟩) f.nodes.length f.nodes.length)) ∧ Below w.heap.size w W)
    (fun _ _ _ => False)
    (OwnFrom.and (OwnFrom.and (Own.from (rowIs_own _ _ _ _) _) (Own.from (boxed_own _ _ _) _)) (ownFrom_below (Nat.le_refl _) (by omega)))
    (fun _ _ _ _ _ hs _ _ => hs)
    ⟨⟨bR, bX⟩, hB0⟩
    (fun x a' W => ∃ Bx, w.heap.size + 1 + 1 < Bx ∧ Nd5 W Bx f.nodes[x.1] ∧ a' = { tmps := #[.agg #[.slice av f.nodes.length cv, va], .pointer (some ⟨w.heap.size, 0, none⟩), .slice none 0 0, .pointer (some ⟨w.heap.size + 1 + 1, 0, none⟩), .int .i64 (x.1 : Int), .pointer (some ⟨Bx, 0, none⟩), .pointer (some ⟨w.heap.size, 0, none⟩), .slice av f.nodes.length cv, .int .i64 (f.nodes.length : Int), .slice (some ⟨w.heap.size + 1, 0, none⟩) f.nodes.length f.nodes.length, .slice (some ⟨w.heap.size + 1, 0, none⟩) f.nodes.length f.nodes.length, .slice (some ⟨w.heap.size + 1, 0, none⟩) f.nodes.length f.nodes.length, .int .i64 (f.nodes.length : Int), .int .i64 ((f.nodes.length - 1 : Nat) : Int), .pointer (some ⟨w.heap.size + 1, f.nodes.length - 1, none⟩), .pointer (some ⟨w.heap.size, 0, none⟩), .slice av f.nodes.length cv, .func (.func 81) #[] #[.pointer (some ⟨w.heap.size + 1 + 1 + 1, 0, none⟩)], .int .i64 (x.1 : Int), nodV f.nodes[x.1], undef, undef, undef, undef, undef, undef, undef, undef, undef, undef, undef, undef, undef, undef, undef, undef, undef, undef], defers := [] })
    (fun x a' _ X Y row hs hg hr => by obtain ⟨Bx, h1, h2, h3⟩ := hs; exact ⟨Bx, h1, Nd5.own Bx (fun (_ : Unit) => f.nodes[x.1]) () X Y row h2 hg (fun r e => (hr r e).2), h3⟩)
    ?assign ?body ?done ?stop
  case assign =>
    rintro l pre x W K ⟨⟨bR1, bX1⟩, hB1⟩ hK
    have hle := hB1.size
    have hlt := bX1.lt
    unfold bkE nodV
    gi_wp2
    exact hK _ _ ((KeepsOthers.alloc _ _).from _) ⟨(Below.refl _ W).alloc (by omega) _, fun o ho => (Below.heap_alloc _ _ _ (Array.getElem?_eq_some_iff.1 ho).1).trans ho⟩ ⟨⟨bR1.alloc _, bX1.alloc _⟩, hB1.alloc (by omega) _⟩ ⟨W.heap.size, by omega, nd5_new W _, rfl⟩
  case body =>
    rintro l pre x a' W hl ⟨r, hr⟩ ⟨⟨bR1, bX1⟩, hB1⟩ ⟨Bx, hBx, ⟨n0, n1, n2, n3, n4⟩, rfl⟩ hlt
    have cX := bX1.cell
    have hx := x.2
    have cR := bR1.cell hx
    have HR1 := Lib.hid bR1
    have hxi : ((x.1 : Nat) : Int) < (f.nodes.length : Int) := by omega
    have hst2 := rO_snoc f.nodes pre x
    unfold rStep at hst2
    rw [List.getElem?_eq_getElem hx] at hst2
    dsimp only at hst2
    have hchl := HC.out x.1 hx
    generalize f.nodes[x.1] = nd at *
    have same : rO f.nodes (pre ++ [x]) = rO f.nodes pre → (KeepsFrom W0.heap.size W W ∧ Kp2 w.heap.size (w.heap.size + 1 + 1 + 1) W W ∧ (W.rowIs (w.heap.size + 1) 4 f.nodes.length (fun k => .bool (askd (rO f.nodes (pre ++ [x])) k)) ∧ Boxed W (w.heap.size + 1 + 1) 94 (.slice (some ⟨w.heap.size + 1, 0, none⟩) f.nodes.length f.nodes.length)) ∧ Below w.heap.size w W) := fun e => by
      rw [e]
      exact ⟨KeepsFrom.refl _ _, Kp2.refl _ _ _, ⟨bR1, bX1⟩, hB1⟩
    have SAME := Lib.hid same
    clear same
    cases hb : askd (rO f.nodes pre) x.1 with
    | false =>
      rw [hb] at cR hst2
      rw [if_neg (by simp)] at hst2
      have SM := Lib.hid (SAME.out hst2)
      clear SAME hst2 hchl hb
      gi_wp2
      exact SM.out
    | true =>
      rw [hb] at cR hst2
      cases hlf : nd.lf with
      | true =>
        rw [hlf] at n0 hst2
        rw [if_neg (by simp)] at hst2
        have SM := Lib.hid (SAME.out hst2)
        clear SAME hst2 hchl hb hlf
        gi_wp2
        exact SM.out
      | false =>
        rw [hlf] at n0 hst2
        rw [if_pos ⟨rfl, rfl⟩] at hst2
        obtain ⟨c1, c2, c3, c4⟩ := hchl hlf
        obtain ⟨L, hL⟩ : ∃ L : Nat, nd.ls = (L : Int) := ⟨nd.ls.toNat, by omega⟩
        obtain ⟨R, hR⟩ : ∃ R : Nat, nd.mr = (R : Int) := ⟨nd.mr.toNat, by omega⟩
        rw [hL] at n3 hst2 c2
        rw [hR] at n4 hst2 c4
        have hLn : (L : Int) < (f.nodes.length : Int) := by omega
        have hRn : (R : Int) < (f.nodes.length : Int) := by omega
        have hLl : L < f.nodes.length := by omega
        have hRl : R < f.nodes.length := by omega
        have dL := bR1.cell hLl
        have dR := bR1.cell hRl
        have fR := bR1.frozen
        have hRz := bR1.lt
        clear hchl hb hlf hL hR c1 c2 c3 c4 SAME
        gi_wp2
        refine region_round (S := fun w' => w'.cell? ⟨w.heap.size + 1 + 1, 0, none⟩ = some (.slice (some ⟨w.heap.size + 1, 0, none⟩) f.nodes.length f.nodes.length) ∧ w'.cell? ⟨Bx, 3, none⟩ = some (.int .i64 (L : Int)) ∧ w'.cell? ⟨Bx, 4, none⟩ = some (.int .i64 (R : Int))) (by kernel_rfl) (by kernel_rfl) (fun _ _ h => h) ?_
        have HS : (fun w' : World => w'.cell? ⟨w.heap.size + 1 + 1, 0, none⟩ = some (.slice (some ⟨w.heap.size + 1, 0, none⟩) f.nodes.length f.nodes.length) ∧ w'.cell? ⟨Bx, 3, none⟩ = some (.int .i64 (L : Int)) ∧ w'.cell? ⟨Bx, 4, none⟩ = some (.int .i64 (R : Int))) W.drew := ⟨cX, n3, n4⟩
        refine wpAnyH_take (i := 1) (oi := ⟨some 30, Op.fieldAddr 90 (.tmp 5) 3, _, _, _, none⟩) (v := .pointer (some ⟨Bx, 3, none⟩)) rfl (by kernel_rfl) (by kernel_rfl) (by kernel_rfl) (fun _ _ _ h => h) (Or.inl ⟨by rfl, ?_⟩) HS ?_
        · intro w' hSw
          try dsimp only at hSw
          go_simp
        simp only [Act.put, List.setIfInBounds_toArray, List.set_cons_zero, List.set_cons_succ]
        refine wpAnyH_take (i := 4) (oi := ⟨some 33, Op.fieldAddr 90 (.tmp 5) 4, _, _, _, none⟩) (v := .pointer (some ⟨Bx, 4, none⟩)) rfl (by kernel_rfl) (by kernel_rfl) (by kernel_rfl) (fun _ _ _ h => h) (Or.inl ⟨by rfl, ?_⟩) HS ?_
        · intro w' hSw
          try dsimp only at hSw
          go_simp
        simp only [Act.put, List.setIfInBounds_toArray, List.set_cons_zero, List.set_cons_succ]
        refine wpAnyH_take (i := 0) (oi := ⟨some 29, Op.load 94 (.tmp 3), _, _, _, none⟩) (v := .slice (some ⟨w.heap.size + 1, 0, none⟩) f.nodes.length f.nodes.length) rfl (by kernel_rfl) (by kernel_rfl) (by kernel_rfl) (fun _ _ _ h => h) (Or.inl ⟨by rfl, ?_⟩) HS ?_
        · intro w' hSw
          try dsimp only at hSw
          go_simp
        simp only [Act.put, List.setIfInBounds_toArray, List.set_cons_zero, List.set_cons_succ]
        refine wpAnyH_take (i := 2) (oi := ⟨some 31, Op.load 3 (.tmp 30), _, _, _, none⟩) (v := .int .i64 (L : Int)) rfl (by kernel_rfl) (by kernel_rfl) (by kernel_rfl) (fun _ _ _ h => h) (Or.inl ⟨by rfl, ?_⟩) HS ?_
        · intro w' hSw
          try dsimp only at hSw
          go_simp
        simp only [Act.put, List.setIfInBounds_toArray, List.set_cons_zero, List.set_cons_succ]
        refine wpAnyH_take (i := 3) (oi := ⟨some 32, Op.load 94 (.tmp 3), _, _, _, none⟩) (v := .slice (some ⟨w.heap.size + 1, 0, none⟩) f.nodes.length f.nodes.length) rfl (by kernel_rfl) (by kernel_rfl) (by kernel_rfl) (fun _ _ _ h => h) (Or.inl ⟨by rfl, ?_⟩) HS ?_
        · intro w' hSw
          try dsimp only at hSw
          go_simp
        simp only [Act.put, List.setIfInBounds_toArray, List.set_cons_zero, List.set_cons_succ]
        refine wpAnyH_take (i := 5) (oi := ⟨some 34, Op.load 3 (.tmp 33), _, _, _, none⟩) (v := .int .i64 (R : Int)) rfl (by kernel_rfl) (by kernel_rfl) (by kernel_rfl) (fun _ _ _ h => h) (Or.inl ⟨by rfl, ?_⟩) HS ?_
        · intro w' hSw
          try dsimp only at hSw
          go_simp
        simp only [Act.put, List.setIfInBounds_toArray, List.set_cons_zero, List.set_cons_succ]
        refine wpAnyH_take (i := 6) (oi := ⟨some 35, Op.indexAddr 94 (.tmp 29) (.tmp 31), _, _, _, none⟩) (v := .pointer (some ⟨w.heap.size + 1, L, none⟩)) rfl (by kernel_rfl) (by kernel_rfl) (by kernel_rfl) (fun _ _ _ h => h) (Or.inl ⟨by rfl, ?_⟩) HS ?_
        · intro w' hSw
          try dsimp only at hSw
          go_simp
        simp only [Act.put, List.setIfInBounds_toArray, List.set_cons_zero, List.set_cons_succ]
        refine wpAnyH_ready (rs := [7]) (by kernel_rfl) (by simp) ?_
        refine AllReadyH.cons (o := ⟨none, Op.store 4 (.tmp 35) (.const (.bool true)), _, _, _, none⟩) rfl (fun K hK => ?_) AllReadyH.nil
        go_simp
        have bR2 := ((HR1.out.set L (.bool true)).drew).congr (g := fun k => .bool (askd ((rO f.nodes pre).set L true) k)) (fun i hi => rset_at (by rw [rO_len]; exact hLl) i)
        have bX2 : Boxed (W.setCell ⟨w.heap.size + 1, L, none⟩ (.bool true)).drew (w.heap.size + 1 + 1) 94 (.slice (some ⟨w.heap.size + 1, 0, none⟩) f.nodes.length f.nodes.length) := (Below.heap_setCell W ⟨w.heap.size + 1, L, none⟩ (.bool true) _ (by show w.heap.size + 1 + 1 ≠ w.heap.size + 1; omega)).trans bX1
        have k1 := (KeepsOthers.setCell W ⟨w.heap.size + 1, L, none⟩ (.bool true)).trans (KeepsOthers.drew _)
        have kb1 : ∀ c, c ≠ w.heap.size + 1 → (W.setCell ⟨w.heap.size + 1, L, none⟩ (.bool true)).drew.heap[c]? = W.heap[c]? := fun c hc => Below.heap_setCell _ _ _ _ hc
        have hB2 : Below w.heap.size W (W.setCell ⟨w.heap.size + 1, L, none⟩ (.bool true)).drew := ((Below.refl _ W).setCell (p := ⟨w.heap.size + 1, L, none⟩) (by show w.heap.size ≤ w.heap.size + 1; omega) _).drew
        have HS2 : (fun w' : World => w'.cell? ⟨w.heap.size + 1 + 1, 0, none⟩ = some (.slice (some ⟨w.heap.size + 1, 0, none⟩) f.nodes.length f.nodes.length) ∧ w'.cell? ⟨Bx, 3, none⟩ = some (.int .i64 (L : Int)) ∧ w'.cell? ⟨Bx, 4, none⟩ = some (.int .i64 (R : Int))) (W.setCell ⟨w.heap.size + 1, L, none⟩ (.bool true)).drew :=
          ⟨bX2.cell, (World.cell?_of_block (a := ⟨Bx, 3, none⟩) (kb1 Bx (by omega))).trans n3, (World.cell?_of_block (a := ⟨Bx, 4, none⟩) (kb1 Bx (by omega))).trans n4⟩
        generalize (W.setCell ⟨w.heap.size + 1, L, none⟩ (.bool true)).drew = W2 at *
        clear HS
        have HS := HS2
        refine hK.out _ _ HS (fun hHeld => ?_)
        clear hK K
        try simp only [Act.put, List.setIfInBounds_toArray, List.set_cons_zero, List.set_cons_succ]
        refine wpAnyH_take (i := 8) (oi := ⟨some 36, Op.indexAddr 94 (.tmp 32) (.tmp 34), _, _, _, none⟩) (v := .pointer (some ⟨w.heap.size + 1, R, none⟩)) rfl (by kernel_rfl) (by kernel_rfl) (by kernel_rfl) (fun _ _ _ h => h) (Or.inl ⟨by rfl, ?_⟩) HS ?_
        · intro w' hSw
          try dsimp only at hSw
          go_simp
        simp only [Act.put, List.setIfInBounds_toArray, List.set_cons_zero, List.set_cons_succ]
        have dR2 := bR2.cell hRl
        have fR2 := bR2.frozen
        have hRz2 := bR2.lt
        refine wpAnyH_ready (rs := [9]) (by kernel_rfl) (by simp) ?_
        refine AllReadyH.cons (o := ⟨none, Op.store 4 (.tmp 36) (.const (.bool true)), _, _, _, none⟩) rfl (fun K hK => ?_) AllReadyH.nil
        go_simp
        have bR3 := (bR2.set R (.bool true)).congr (g := fun k => .bool (askd (rO f.nodes (pre ++ [x])) k)) (fun i hi => by
          rw [hst2, Int.toNat_natCast, Int.toNat_natCast]
          exact rset_at (by rw [List.length_set, rO_len]; exact hRl) i)
        have bX3 : Boxed (W2.setCell ⟨w.heap.size + 1, R, none⟩ (.bool true)) (w.heap.size + 1 + 1) 94 (.slice (some ⟨w.heap.size + 1, 0, none⟩) f.nodes.length f.nodes.length) := (Below.heap_setCell W2 ⟨w.heap.size + 1, R, none⟩ (.bool true) _ (by show w.heap.size + 1 + 1 ≠ w.heap.size + 1; omega)).trans bX2
        have k2 := k1.trans (KeepsOthers.setCell W2 ⟨w.heap.size + 1, R, none⟩ (.bool true))
        have kb2 : ∀ c, c ≠ w.heap.size + 1 → (W2.setCell ⟨w.heap.size + 1, R, none⟩ (.bool true)).heap[c]? = W.heap[c]? := fun c hc => (Below.heap_setCell _ _ _ _ hc).trans (kb1 c hc)
        have hB3 : Below w.heap.size W (W2.setCell ⟨w.heap.size + 1, R, none⟩ (.bool true)) := hB2.setCell (p := ⟨w.heap.size + 1, R, none⟩) (by show w.heap.size ≤ w.heap.size + 1; omega) _
        have HS3 : (fun w' : World => w'.cell? ⟨w.heap.size + 1 + 1, 0, none⟩ = some (.slice (some ⟨w.heap.size + 1, 0, none⟩) f.nodes.length f.nodes.length) ∧ w'.cell? ⟨Bx, 3, none⟩ = some (.int .i64 (L : Int)) ∧ w'.cell? ⟨Bx, 4, none⟩ = some (.int .i64 (R : Int))) (W2.setCell ⟨w.heap.size + 1, R, none⟩ (.bool true)) :=
          ⟨bX3.cell, (World.cell?_of_block (a := ⟨Bx, 3, none⟩) (kb2 Bx (by omega))).trans n3, (World.cell?_of_block (a := ⟨Bx, 4, none⟩) (kb2 Bx (by omega))).trans n4⟩
        refine hK.out _ _ HS3 (fun hHeld => ?_)
        clear hK K
        refine wpAnyH_done (by kernel_rfl) ?_ _
        exact ⟨k2.from _, ⟨hB3, fun o ho => (kb2 _ (by omega)).trans ho⟩, ⟨bR3, bX3⟩, hB1.trans hB3⟩
  case done =>
    rintro D zs W hD hS ⟨⟨bR1, bX1⟩, hB1⟩ hK
    have cX := bX1.cell
    have hLT : w.heap.size + 1 < W.heap.size := bR1.lt
    gi_wp2
    refine ⟨by simp, .inl ⟨_, _, rfl, run_takeDeferred hK, ?_⟩⟩
    have hm : f.nodes.length ≤ maxLen := by have := H8.out; unfold maxLen; omega
    refine ⟨_, results_tmp rfl _ _ _, w.heap.size + 1, by omega, rfl, ?_, hB1.trans (belowK_b (w := w) (Nat.le_refl _) W D _ _ (by omega) hK rfl rfl)⟩
    rw [← rO_done hS]
    exact slAt_rowIs (bR1.of_block (World.putObj_heap_other (by omega))) (rO_len _ _) H0.out hm
  case stop =>
    rintro D c pre W _ _ h _
    exact h.elim
end Go.Proofs.YtlhidbbphngpcaaDoor
