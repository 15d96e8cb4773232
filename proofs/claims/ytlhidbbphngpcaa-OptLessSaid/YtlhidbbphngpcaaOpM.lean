/-
  OptLess: how many nodes are asked for a number.
  slices.Contains of ints.
  A map from nodes to bool that is the call's own.
  The law OptLess.
-/
import Derived.Test.YtlhidbbphngpcaaOpS
namespace Go.Proofs.Ytlhidbbphngpcaa
set_option linter.unusedVariables false
set_option linter.unusedSimpArgs false
open Go.ChangeShapes Go.WideShapes Go.ChangeAt Go.RowKit

theorem lp_step (ns : List Nod) (t a : Int) (k m : Nat) (y : Nod) (hL : Lp ns t k a m) (hy : NodAt ns y k) :
    (y.lf = true ∧ m = 1) ∨ (y.lf = false ∧ t < y.bd ∧ ∃ j q : Nat, y.ls = j ∧ j < k ∧ m = q + 1 ∧ Lp ns t j a q) ∨ (y.lf = false ∧ y.bd ≤ t ∧ ∃ j q : Nat, y.mr = j ∧ j < k ∧ m = q + 1 ∧ Lp ns t j a q) := by
  obtain ⟨h, rfl⟩ := hy
  cases hL with
  | leaf i h2 e => exact .inl ⟨e, rfl⟩
  | less i j a n h2 e c hk hl r => exact .inr (.inl ⟨e, c, j, n, hk, hl, rfl, r⟩)
  | more i j a n h2 e c hk hl r => exact .inr (.inr ⟨e, c, j, n, hk, hl, rfl, r⟩)
theorem lp_le {ns : List Nod} {t : Int} {i : Nat} {a : Int} {n : Nat} (h : Lp ns t i a n) : n ≤ i + 1 ∧ 0 < n := by
  induction h with
  | leaf i h e => omega
  | less i k a n h e c hk hl r ih => omega
  | more i k a n h e c hk hl r ih => omega
theorem lp_lt {ns : List Nod} {t : Int} {i : Nat} {a : Int} {n : Nat} (h : Lp ns t i a n) : i < ns.length := by
  cases h <;> assumption
set_option maxRecDepth 100000 in
set_option maxHeartbeats 4000000 in
theorem kasked_any (g : Frs) (vn va : Value) (t a : Int) (n : Nat) (w : World) (hf : FrsAt w vn va g) (hP : Lp g.nodes t (g.nodes.length - 1) a n) (h0 : 0 < g.nodes.length) (h8 : g.nodes.length ≤ 8000) :
    Calls Try.prog 29 #[.agg #[vn, va], .int .i64 t] w fun e w' => e = .returned (.int .i64 (n : Int)) ∧ Below w.heap.size w w' := by
  obtain ⟨i, hi⟩ : ∃ i, i + 1 = g.nodes.length := ⟨g.nodes.length - 1, by omega⟩
  rw [show g.nodes.length - 1 = i by omega] at hP
  obtain ⟨ao, cap, rfl, hl2⟩ := hf.1.shape
  obtain ⟨bo, cap2, rfl, hl3⟩ := hf.2.shape
  obtain ⟨b, off, rfl, hb, c0, c1, c2, c3, c4⟩ := elemNod hf.1 i (by omega)
  have HF := Lib.hid hf
  have HL := Lib.hid hP
  have HY : Hid (NodAt g.nodes g.nodes[i] i) := ⟨by omega, rfl⟩
  have hlen : (g.nodes.length : Int) = (i : Int) + 1 := by omega
  have hne : ((i : Int) + 1 == 0) = false := by rw [beq_eq_false_iff_ne]; omega
  obtain ⟨hn1, hn2⟩ := lp_le hP
  clear hl2 hl3 hf hP
  generalize g.nodes[i] = x at *
  go_enter Try.func29, Try.ntmps29
  go_wp2_with fail
  go_loopw [5] (fun v wr => ∃ (k : Nat) (y : Nod) (s m : Nat), v = .int .i64 (s : Int) ∧ wr = leafW w (.cells #[Value.slice (some { block := b, off := off }) g.nodes.length cap, .slice bo g.answers.length cap2] 26) y ∧ Hid (NodAt g.nodes y k) ∧ Hid (Lp g.nodes t k a m) ∧ s + m = n + 1 ∧ 0 < m ∧ 0 < s) (fun v _ => (n + 1 - intOf v).toNat)
  case atStart => exact ⟨i, x, 1, n, rfl, rfl, HY, HL, by omega, by omega, by omega⟩
  case round =>
    obtain ⟨k, y, s, m, rfl, rfl, hy, hL, hsm, hm0, hs0⟩ := hrel
    have hc := lp_step g.nodes t a k m y hL.out hy.out
    rcases hc with ⟨e, ea⟩ | ⟨e, hlt, j, q, hj, hjk, rfl, hr⟩ | ⟨e, hlt, j, q, hj, hjk, rfl, hr⟩
    · have hsn : s = n := by omega
      subst hsn
      clear ea c0 c1 c2 c3 c4 hsm
      unfold leafW
      rw [e]
      go_wp2
      go_ret
      exact ⟨rfl, ((Below.refl _ _).alloc (Nat.le_refl _) _).alloc (size_le_push_ w _) _⟩
    · have hjl : j < g.nodes.length := lp_lt hr
      obtain ⟨b', off', hbb, hb', d0, d1, d2, d3, d4⟩ := elemNod HF.out.1 j hjl
      obtain ⟨rfl, rfl⟩ : b = b' ∧ off = off' := by simpa using hbb
      have HZ : Hid (NodAt g.nodes g.nodes[j] j) := ⟨hjl, rfl⟩
      obtain ⟨hq1, hq2⟩ := lp_le hr
      have HR := Lib.hid hr
      clear c0 c1 c2 c3 c4 hr hbb
      obtain ⟨ylf, yan, ybd, yls, ymr⟩ := y
      dsimp only at e hlt hj
      subst e hj
      generalize g.nodes[j] = z at *
      unfold leafW
      dsimp only
      go_wp2
      go_roundw
      case rel => exact ⟨j, z, s + 1, q, by go_num, rfl, HZ, HR, by omega, by omega, by omega⟩
      case measure => simp [intOf]; omega
    · have hjl : j < g.nodes.length := lp_lt hr
      obtain ⟨b', off', hbb, hb', d0, d1, d2, d3, d4⟩ := elemNod HF.out.1 j hjl
      obtain ⟨rfl, rfl⟩ : b = b' ∧ off = off' := by simpa using hbb
      have HZ : Hid (NodAt g.nodes g.nodes[j] j) := ⟨hjl, rfl⟩
      obtain ⟨hq1, hq2⟩ := lp_le hr
      have HR := Lib.hid hr
      clear c0 c1 c2 c3 c4 hr hbb
      obtain ⟨ylf, yan, ybd, yls, ymr⟩ := y
      dsimp only at e hlt hj
      subst e hj
      generalize g.nodes[j] = z at *
      unfold leafW
      dsimp only
      go_wp2
      go_roundw
      case rel => exact ⟨j, z, s + 1, q, by go_num, rfl, HZ, HR, by omega, by omega, by omega⟩
      case measure => simp [intOf]; omega
end Go.Proofs.Ytlhidbbphngpcaa
namespace Go.Proofs.Ytlhidbbphngpcaa
set_option linter.unusedVariables false
set_option linter.unusedSimpArgs false
open Go.ChangeShapes Go.WideShapes Go.ChangeAt Go.RowKit

set_option maxHeartbeats 2000000 in
theorem indexI_any (v : Value) (xs : List Int) (y : Int) (w : World) (hv : SlAt w 1 RInt v xs) :
    Calls Try.prog 55 #[v, .int .i64 y] w fun e w' => ∃ z : Int, e = .returned (.int .i64 z) ∧ (0 ≤ z ↔ y ∈ xs) ∧ ∃ q, w' = w.drewN q := by
  obtain ⟨aa, ca, rfl, la⟩ := hv.shape
  have la' := maxLen_eq _ la
  have HA := Lib.hid hv
  clear hv la
  go_enter Try.func55, Try.ntmps55
  go_wp2_with fail
  go_loopw [8] (fun t wr => ∃ k : Nat, k ≤ xs.length ∧ t = .int .i64 (k : Int) ∧ Hid (∀ i (hi : i < xs.length), i < k → xs[i] ≠ y) ∧ ∃ q, wr = w.drewN q) (fun t _ => (xs.length - intOf t).toNat)
  case atStart => exact ⟨0, by omega, rfl, fun i _ h => by omega, 0, rfl⟩
  case round =>
    obtain ⟨k, hk, rfl, hall, q, rfl⟩ := hrel
    by_cases hlt : k < xs.length
    · obtain ⟨b1, o1, e1, z1, c1, _⟩ := elemInt HA.out k hlt
      subst e1
      have hki : (k : Int) < (xs.length : Int) := by omega
      have hin : Hid (xs[k] = y → y ∈ xs) := fun h => h ▸ List.getElem_mem hlt
      have hnx : Hid (xs[k] ≠ y → ∀ i (hi : i < xs.length), i < k + 1 → xs[i] ≠ y) := fun h i hi hik => by
        by_cases e : i = k
        · subst e; exact h
        · exact hall.out i hi (by omega)
      generalize xs[k] = x at *
      by_cases hxy : x = y
      · have HIN := Lib.hid (hin.out hxy)
        subst hxy
        clear hin hnx
        go_wp2_with fail
        try (go_quiet (fail))
        go_wp2_with fail
        go_ret
        exact ⟨(k : Int), rfl, ⟨fun _ => HIN.out, fun _ => by omega⟩, _, rfl⟩
      · have HNX := Lib.hid (hnx.out hxy)
        clear hin hnx
        go_wp2_with fail
        try (go_quiet (fail))
        go_wp2_with fail
        go_roundw
        case rel => exact ⟨k + 1, by omega, by go_num, HNX, _, rfl⟩
        case measure => simp [intOf]; omega
    · have HN : Hid (¬ y ∈ xs) := fun h => by
        obtain ⟨i, hi, e⟩ := List.mem_iff_getElem.1 h
        exact hall.out i hi (by omega) e
      go_wp2_with fail
      go_ret
      exact ⟨-1, rfl, ⟨fun h => by omega, fun h => absurd h HN.out⟩, _, rfl⟩
theorem containsI_any (v : Value) (xs : List Int) (y : Int) (w : World) (hv : SlAt w 1 RInt v xs) :
    Calls Try.prog 28 #[v, .int .i64 y] w fun e w' => ∃ r : Bool, e = .returned (.bool r) ∧ (r = true ↔ y ∈ xs) ∧ ∃ q, w' = w.drewN q := by
  have HI := Lib.hid (indexI_any v xs y w hv)
  obtain ⟨aa, ca, rfl, la⟩ := hv.shape
  clear hv la
  go_enter Try.func28, Try.ntmps28
  go_wp2_with fail
  refine HI.out.mono ?_; rintro e w' ⟨z, rfl, hz, q, rfl⟩
  have HZ := Lib.hid hz
  clear hz
  go_wp2
  go_ret
  exact ⟨_, rfl, by simpa using HZ.out, q, rfl⟩
end Go.Proofs.Ytlhidbbphngpcaa
namespace Go.Proofs.Ytlhidbbphngpcaa
set_option linter.unusedVariables false
set_option linter.unusedSimpArgs false
open Go.ChangeShapes Go.WideShapes Go.ChangeAt Go.RowKit

theorem ubool : Try.prog.underlying 4 = some .bool := by kernel_rfl
theorem zboolZ (w : World) : (zeroValue 4).run Try.prog w = .ok (.bool false) w := by kernel_rfl
theorem bool_inv {v : Value} {z : DataW Unit × List MemPlace} (h : plainElem Try.prog 4 v = some z) : ∃ b, v = .bool b ∧ z = (.lit (.bool b), []) := by
  unfold plainElem at h
  rw [ubool] at h
  cases v <;> simp at h
  exact ⟨_, rfl, h.symm⟩
/-- the nodes of out are told true, no others. -/
def SnM (D : DataW Unit) (out : List Nod) : Prop := Maps.IsMap D ∧ ∀ n, N64 n → ∃ b, D.atKey (kN n) (.lit (.bool false)) = .lit (.bool b) ∧ (b = true ↔ n ∈ out)
theorem SnM.zero : SnM (.map []) [] := ⟨⟨[], rfl⟩, fun n hn => ⟨false, by simp [DataW.atKey], by simp⟩⟩
theorem SnM.put {D : DataW Unit} {out : List Nod} (h : SnM D out) {y : Nod} (hy : N64 y) : SnM (D.put (kN y) (.lit (.bool true))) (out ++ [y]) := by
  refine ⟨h.1.put _ _, fun c hc => ?_⟩
  by_cases e : c = y
  · subst e
    exact ⟨true, by rw [Maps.atKey_put_same h.1 (kN_key hc)], by simp⟩
  · have hk : kN c ≠ kN y := fun e' => e (kN_inj hc hy e')
    obtain ⟨b, h1, h2⟩ := h.2 c hc
    exact ⟨b, by rw [Maps.atKey_put_other hk, h1], by rw [h2]; simp [e]⟩
def MpB (w : World) (b n : Nat) (D : DataW Unit) : Prop := w.ownsMap Try.prog 61 (plainElem Try.prog 4) b n D
theorem MpB.block {w w' : World} {b n : Nat} {D : DataW Unit} (h : MpB w b n D) (hb : w'.heap[b]? = w.heap[b]?) : MpB w' b n D := by
  obtain ⟨es, clock, h1, h2⟩ := h
  exact ⟨es, clock, hb.trans h1, h2⟩
set_option maxRecDepth 100000 in
theorem wpList_lookup_nodB (w : World) {ops : Array Oper} {rest : List Oper} {o : Oper} {a : Act} {Q : Exit → Act → World → Prop}
    (hg : o.guard = none) (m x : Operand) (hop : o.op = Op.lookup 63 m x false) (b n : Nat) (D : DataW Unit) (out : List Nod)
    (hm : a.eval m = .map (some b)) (hown : MpB w b n D) (hD : SnM D out) (y : Nod) (hy : N64 y) (hx : a.eval x = nV y)
    (hK : ∀ c : Bool, (c = true ↔ y ∈ out) → wpList Try.prog ops Q rest (a.put o.dst (.bool c)) w) :
    wpList Try.prog ops Q (o :: rest) a w := by
  refine wpList_plain hg fun K' hK' => ?_
  obtain ⟨v, ps, hrun, hat⟩ := World.ownsMap.lookup hown nlaw (t := 63) Try.underlying63 (zboolZ w) (plainElem_bool ubool false) (kN_eq hy)
  obtain ⟨c, rfl, hc⟩ := bool_inv hat
  obtain ⟨b', h1, h2⟩ := hD.2 y hy
  have e : c = b' := by
    have h3 := congrArg Prod.fst hc
    dsimp only at h3
    rw [h1] at h3
    injection h3 with h4
    injection h4 with h5
    exact h5.symm
  subst e
  unfold Oper.wp
  simp [execOp, hop, hm, hx, hrun, Result.andThen]
  exact hK' _ _ (hK c h2)
end Go.Proofs.Ytlhidbbphngpcaa
namespace Go.Proofs.Ytlhidbbphngpcaa
set_option linter.unusedVariables false
set_option linter.unusedSimpArgs false
open Go.ChangeShapes Go.WideShapes Go.ChangeAt Go.RowKit

theorem wy_or {wy : Int} (h0 : 0 ≤ wy) (h7 : wy ≤ 7) :
    (0 ≤ bits .or .i64 wy 1 ∧ bits .or .i64 wy 1 ≤ 7 ∧ (bits .and .i64 (bits .or .i64 wy 1) 1 != 0) = true ∧ (bits .and .i64 (bits .or .i64 wy 1) 2 != 0) = (bits .and .i64 wy 2 != 0) ∧ (bits .and .i64 (bits .or .i64 wy 1) 4 != 0) = (bits .and .i64 wy 4 != 0)) ∧
    (0 ≤ bits .or .i64 wy 2 ∧ bits .or .i64 wy 2 ≤ 7 ∧ (bits .and .i64 (bits .or .i64 wy 2) 2 != 0) = true) ∧
    (0 ≤ bits .or .i64 wy 4 ∧ bits .or .i64 wy 4 ≤ 7 ∧ (bits .and .i64 (bits .or .i64 wy 4) 4 != 0) = true) := by
  have : wy = 0 ∨ wy = 1 ∨ wy = 2 ∨ wy = 3 ∨ wy = 4 ∨ wy = 5 ∨ wy = 6 ∨ wy = 7 := by omega
  rcases this with rfl | rfl | rfl | rfl | rfl | rfl | rfl | rfl <;> decide
/-- merged it is no greater. -/
theorem opt_less {f g h : Frs} {F : Int → Int} {m s b b' : Bool} (hT : Tells f F) (hg : OptIs f F m s b g) (hh : OptIs f F true s b' h) : h.nodes.length ≤ g.nodes.length := by
  rw [hg.size hT, hh.size hT]
  cases m
  · exact sz_merge f F s
  · exact Nat.le_refl _
/-- the bounds, each once. -/
theorem at_cuts {ns : List Nod} {at' : List Int} (h : ∀ x, x ∈ bnds ns → x ∈ at') : (cuts ns).length ≤ at'.length := by
  refine Nat.le_trans (List.length_filter_le _ _) ?_
  exact nodup_sub _ _ (srtC_nodup _) fun x hx => h x ((srtC_mem _ x).1 hx)
set_option maxRecDepth 100000 in
set_option maxHeartbeats 4000000 in
theorem walkOptLess (v : Value) (xs : List Rw) (ways : Int) (W : World) (hv : SlAt W 4 RRw v xs) (hw : (Lit.int .i64 ways).wf = true) :
    Calls Try.prog 7 #[v, .int .i64 ways] W fun e w' => e = .returned (.bool true) ∧ Below W.heap.size W w' := by
  have HF := Lib.hid (forest_lim v xs W hv)
  have HP8 := Lib.hid (fun w => picked_v ways 8 w hw (by omega) (by omega))
  obtain ⟨pc0, pc1⟩ := pkv_bd ways 8 (by omega)
  obtain ⟨an, cn, rfl, ln⟩ := hv.shape
  clear hv hw ln
  generalize pkv ways 8 = wy at *
  obtain ⟨⟨o10, o17, ob1, ob2, ob4⟩, ⟨o20, o27, oc2⟩, ⟨o40, o47, od4⟩⟩ := wy_or pc0 (by omega)
  have HO1 := Lib.hid (And.intro ob1 (And.intro ob2 ob4))
  have HO2 := Lib.hid oc2
  have HO4 := Lib.hid od4
  clear ob1 ob2 ob4 oc2 od4
  generalize ewm : bits .or .i64 wy 1 = wm at *
  generalize ews : bits .or .i64 wy 2 = ws at *
  generalize ewb : bits .or .i64 wy 4 = wb at *
  go_enter Try.func7, Try.ntmps7
  go_wp2_with fail
  refine HF.out.mono ?_; rintro e w1 ⟨vn, va, f, rfl, hf, ⟨h0, h41⟩, hb1⟩
  clear HF
  obtain ⟨nn, cnn, rfl, -⟩ := hf.1.shape
  obtain ⟨na, cna, rfl, -⟩ := hf.2.shape
  obtain ⟨F, hT⟩ := tells_ex h0 (fun n hn => i64_ge (nods64 hf.1 n hn).2.1)
  have HT := Lib.hid hT
  have HO := Lib.hid (fun (wy : Int) (h0 : 0 ≤ wy) (h7 : wy ≤ 7) vn va w hf => opt_small f (by omega) F hT wy h0 h7 vn va w hf)
  clear hT
  have HFM : Hid (∀ W', Below w1.heap.size w1 W' → FrsAt W' (.slice nn f.nodes.length cnn) (.slice na f.answers.length cna) f) := fun W' hb => hf.mono hb
  have o0 := OBx.new w1 (.slice nn f.nodes.length cnn) (.slice na f.answers.length cna)
  have b0 : Below w1.heap.size w1 (w1.alloc (.cells #[.slice nn f.nodes.length cnn, .slice na f.answers.length cna] 26)) := (Below.refl _ _).alloc (Nat.le_refl _) _
  clear hf
  go_wp2_with fail
  refine (HP8.out _).mono ?_; rintro e w' ⟨rfl, rfl⟩
  generalize w1.alloc (.cells #[.slice nn f.nodes.length cnn, .slice na f.answers.length cna] 26) = v0 at *
  have HWD : Hid (W.heap.size ≤ w1.heap.size) := Lib.hid hb1.size
  have HBW1 := Lib.hid hb1
  clear hb1
  generalize w1.heap.size = D at *
  have KF0 := Lib.hid o0
  have KB0 := Lib.hid b0
  clear b0
  obtain ⟨t0, t1, -, t3⟩ := o0
  go_wp2_with fail
  refine (HO.out wy pc0 (by omega) _ _ _ (HFM.out _ KB0.out)).mono ?_; rintro e u1 ⟨g1, hg, h64, h8, ⟨a1, c1, b1, d1, rfl, hfg, -⟩, hb⟩
  have HG1 := Lib.hid hg
  have HN1 := Lib.hid h64
  have HE1 := Lib.hid h8
  have LF := Lib.hid (KF0.out.below hb KF0.out.2.2.2)
  have LB := Lib.hid (KB0.out.trans (hb.mono (Nat.le_of_lt KF0.out.2.2.2)))
  have hbx : Below u1.heap.size u1 (u1.alloc (.cells #[.slice a1 g1.nodes.length c1, .slice b1 g1.answers.length d1] 26)) := (Below.refl _ _).alloc (Nat.le_refl _) _
  have KF1 := Lib.hid (LF.out.below hbx LF.out.2.2.2)
  have KB1 := Lib.hid (LB.out.trans (hbx.mono (Nat.le_of_lt LF.out.2.2.2)))
  have KO1_1 := Lib.hid (OBx.new u1 (.slice a1 g1.nodes.length c1) (.slice b1 g1.answers.length d1))
  have KR1_1 := Lib.hid (hfg.mono hbx)
  obtain ⟨x0, x1, -, x3⟩ := LF.out
  clear t0 t1 t3 hg h64 h8 hb hfg hbx LF LB KF0 KB0
  go_wp2_with fail
  generalize u1.alloc (.cells #[.slice a1 g1.nodes.length c1, .slice b1 g1.answers.length d1] 26) = v1 at *
  generalize u1.heap.size = P1 at *
  clear x0 x1 x3
  obtain ⟨t0, t1, -, t3⟩ := KF1.out
  refine (HO.out wm o10 o17 _ _ _ (HFM.out _ KB1.out)).mono ?_; rintro e u2 ⟨g2, hg, h64, h8, ⟨a2, c2, b2, d2, rfl, hfg, -⟩, hb⟩
  have HG2 := Lib.hid hg
  have HN2 := Lib.hid h64
  have HE2 := Lib.hid h8
  have LF := Lib.hid (KF1.out.below hb KF1.out.2.2.2)
  have LB := Lib.hid (KB1.out.trans (hb.mono (Nat.le_of_lt KF1.out.2.2.2)))
  have LO1 := Lib.hid (KO1_1.out.below hb KO1_1.out.2.2.2)
  have LR1 := Lib.hid (KR1_1.out.mono hb)
  have hbx : Below u2.heap.size u2 (u2.alloc (.cells #[.slice a2 g2.nodes.length c2, .slice b2 g2.answers.length d2] 26)) := (Below.refl _ _).alloc (Nat.le_refl _) _
  have KF2 := Lib.hid (LF.out.below hbx LF.out.2.2.2)
  have KB2 := Lib.hid (LB.out.trans (hbx.mono (Nat.le_of_lt LF.out.2.2.2)))
  have KO1_2 := Lib.hid (LO1.out.below hbx LO1.out.2.2.2)
  have KR1_2 := Lib.hid (LR1.out.mono hbx)
  have KO2_2 := Lib.hid (OBx.new u2 (.slice a2 g2.nodes.length c2) (.slice b2 g2.answers.length d2))
  have KR2_2 := Lib.hid (hfg.mono hbx)
  obtain ⟨x0, x1, -, x3⟩ := LF.out
  clear t0 t1 t3 hg h64 h8 hb hfg hbx LF LB LO1 LR1 KO1_1 KR1_1 KF1 KB1
  go_wp2_with fail
  generalize u2.alloc (.cells #[.slice a2 g2.nodes.length c2, .slice b2 g2.answers.length d2] 26) = v2 at *
  generalize u2.heap.size = P2 at *
  clear x0 x1 x3
  obtain ⟨t0, t1, -, t3⟩ := KF2.out
  refine (HO.out ws o20 o27 _ _ _ (HFM.out _ KB2.out)).mono ?_; rintro e u3 ⟨g3, hg, h64, h8, ⟨a3, c3, b3, d3, rfl, hfg, -⟩, hb⟩
  have HG3 := Lib.hid hg
  have HN3 := Lib.hid h64
  have HE3 := Lib.hid h8
  have LF := Lib.hid (KF2.out.below hb KF2.out.2.2.2)
  have LB := Lib.hid (KB2.out.trans (hb.mono (Nat.le_of_lt KF2.out.2.2.2)))
  have LO1 := Lib.hid (KO1_2.out.below hb KO1_2.out.2.2.2)
  have LR1 := Lib.hid (KR1_2.out.mono hb)
  have LO2 := Lib.hid (KO2_2.out.below hb KO2_2.out.2.2.2)
  have LR2 := Lib.hid (KR2_2.out.mono hb)
  have hbx : Below u3.heap.size u3 (u3.alloc (.cells #[.slice a3 g3.nodes.length c3, .slice b3 g3.answers.length d3] 26)) := (Below.refl _ _).alloc (Nat.le_refl _) _
  have KF3 := Lib.hid (LF.out.below hbx LF.out.2.2.2)
  have KB3 := Lib.hid (LB.out.trans (hbx.mono (Nat.le_of_lt LF.out.2.2.2)))
  have KO1_3 := Lib.hid (LO1.out.below hbx LO1.out.2.2.2)
  have KR1_3 := Lib.hid (LR1.out.mono hbx)
  have KO2_3 := Lib.hid (LO2.out.below hbx LO2.out.2.2.2)
  have KR2_3 := Lib.hid (LR2.out.mono hbx)
  have KO3_3 := Lib.hid (OBx.new u3 (.slice a3 g3.nodes.length c3) (.slice b3 g3.answers.length d3))
  have KR3_3 := Lib.hid (hfg.mono hbx)
  obtain ⟨x0, x1, -, x3⟩ := LF.out
  clear t0 t1 t3 hg h64 h8 hb hfg hbx LF LB LO1 LR1 KO1_2 KR1_2 LO2 LR2 KO2_2 KR2_2 KF2 KB2
  go_wp2_with fail
  generalize u3.alloc (.cells #[.slice a3 g3.nodes.length c3, .slice b3 g3.answers.length d3] 26) = v3 at *
  generalize u3.heap.size = P3 at *
  clear x0 x1 x3
  obtain ⟨t0, t1, -, t3⟩ := KF3.out
  refine (HO.out wb o40 o47 _ _ _ (HFM.out _ KB3.out)).mono ?_; rintro e u4 ⟨g4, hg, h64, h8, ⟨a4, c4, b4, d4, rfl, hfg, -⟩, hb⟩
  have HG4 := Lib.hid hg
  have HN4 := Lib.hid h64
  have HE4 := Lib.hid h8
  have LF := Lib.hid (KF3.out.below hb KF3.out.2.2.2)
  have LB := Lib.hid (KB3.out.trans (hb.mono (Nat.le_of_lt KF3.out.2.2.2)))
  have LO1 := Lib.hid (KO1_3.out.below hb KO1_3.out.2.2.2)
  have LR1 := Lib.hid (KR1_3.out.mono hb)
  have LO2 := Lib.hid (KO2_3.out.below hb KO2_3.out.2.2.2)
  have LR2 := Lib.hid (KR2_3.out.mono hb)
  have LO3 := Lib.hid (KO3_3.out.below hb KO3_3.out.2.2.2)
  have LR3 := Lib.hid (KR3_3.out.mono hb)
  have hbx : Below u4.heap.size u4 (u4.alloc (.cells #[.slice a4 g4.nodes.length c4, .slice b4 g4.answers.length d4] 26)) := (Below.refl _ _).alloc (Nat.le_refl _) _
  have KF4 := Lib.hid (LF.out.below hbx LF.out.2.2.2)
  have KB4 := Lib.hid (LB.out.trans (hbx.mono (Nat.le_of_lt LF.out.2.2.2)))
  have KO1_4 := Lib.hid (LO1.out.below hbx LO1.out.2.2.2)
  have KR1_4 := Lib.hid (LR1.out.mono hbx)
  have KO2_4 := Lib.hid (LO2.out.below hbx LO2.out.2.2.2)
  have KR2_4 := Lib.hid (LR2.out.mono hbx)
  have KO3_4 := Lib.hid (LO3.out.below hbx LO3.out.2.2.2)
  have KR3_4 := Lib.hid (LR3.out.mono hbx)
  have KO4_4 := Lib.hid (OBx.new u4 (.slice a4 g4.nodes.length c4) (.slice b4 g4.answers.length d4))
  have KR4_4 := Lib.hid (hfg.mono hbx)
  obtain ⟨x0, x1, -, x3⟩ := LF.out
  clear t0 t1 t3 hg h64 h8 hb hfg hbx LF LB LO1 LR1 KO1_3 KR1_3 LO2 LR2 KO2_3 KR2_3 LO3 LR3 KO3_3 KR3_3 KF3 KB3
  have hless : ¬ (g1.nodes.length : Int) < (g2.nodes.length : Int) := by
    obtain ⟨r1, r2, r3⟩ := HO1.out
    have h2 := HG2.out
    rw [r1, r2] at h2
    have := opt_less HT.out HG1.out h2
    omega
  have HLESS : Hid (decide (g1.nodes.length < g2.nodes.length) = false) := by
    show _ = _
    rw [decide_eq_false_iff_not]; omega
  have HCK : Hid (∀ (vn va : Value) W, FrsAt W vn va g4 → Calls Try.prog 27 #[.agg #[vn, va]] W fun e w' => e = .returned (.int .i64 0) ∧ Below W.heap.size W w') := fun vn va W hw => by
    have := check_any g4 vn va W hw
    rw [HG4.out.good HT.out HE4.out] at this
    exact this
  obtain ⟨q10, q11, -, q13⟩ := KO1_4.out
  obtain ⟨q20, q21, -, q23⟩ := KO2_4.out
  obtain ⟨q40, q41, -, q43⟩ := KO4_4.out
  clear HO HO1 pc0 pc1 o10 o17 o20 o27 o40 o47 ewm ews ewb x0 x1 x3 h0
  go_wp2_with fail
  generalize u4.alloc (.cells #[.slice a4 g4.nodes.length c4, .slice b4 g4.answers.length d4] 26) = v4 at *
  generalize u4.heap.size = P4 at *
  refine (HCK.out _ _ _ KR4_4.out).mono ?_; rintro e v5 ⟨rfl, hb⟩
  have LF := Lib.hid (KF4.out.below hb KF4.out.2.2.2)
  have LB := Lib.hid (KB4.out.trans (hb.mono (Nat.le_of_lt KF4.out.2.2.2)))
  have LO3 := Lib.hid (KO3_4.out.below hb KO3_4.out.2.2.2)
  have LR3 := Lib.hid (KR3_4.out.mono hb)
  have LO4 := Lib.hid (KO4_4.out.below hb KO4_4.out.2.2.2)
  have LR4 := Lib.hid (KR4_4.out.mono hb)
  clear q10 q11 q13 q20 q21 q23 q40 q41 q43 hb KF4 KB4 KO1_4 KR1_4 KO2_4 KR2_4 KO3_4 KR3_4 KO4_4 KR4_4 HCK hless
  obtain ⟨x0, x1, -, x3⟩ := LF.out
  obtain ⟨i0, hi, hzi0, hzi1, hzi2⟩ := info_parts info_int
  have HFN := Lib.hid (HFM.out _ LB.out).1
  have HBD : Hid (∀ x ∈ bnds f.nodes, I64 x) := fun x hx => by
    unfold bnds at hx
    obtain ⟨n, hn, rfl⟩ := List.mem_map.1 hx
    exact (nods64 HFN.out n (List.mem_filter.1 hn).1).2.1
  clear HFM
  generalize hfn : f.nodes = fs at *
  have HFS := Lib.hid hfn
  clear hfn
  go_wp2_with fail
  rw [HLESS.out]
  go_loopw [15, 86] (fun av t wr => ∃ (k : Nat) (xs : List Int), k ≤ fs.length ∧ t = .int .i64 (k : Int) ∧ Hid (wr.ownsRow v5.heap.size 3 1 av xs.length (xs.flatMap encI)) ∧ Hid (∀ x ∈ xs, x ∈ bnds fs) ∧ Hid (∀ x ∈ bnds (fs.take k), x ∈ xs) ∧ xs.length ≤ k ∧ Below v5.heap.size v5 wr) (fun _ t _ => (fs.length - intOf t).toNat)
  case atStart => exact ⟨0, [], by omega, rfl, World.ownsRow_nil _ _ _ _, fun x hx => by simp at hx, fun x hx => by simp [bnds] at hx, Nat.le_refl _, Below.refl _ _⟩
  case round =>
    obtain ⟨k, ys, hk, rfl, hO, hS, hA, hyl, hbr⟩ := hrel
    obtain ⟨ao, co, rfl⟩ := own_shape hO.out
    by_cases hlt : k < fs.length
    · obtain ⟨b, off, rfl, hbb, y0, y1, y2, y3, y4⟩ := elemNod (HFN.out.mono hbr fun _ _ h => h) k hlt
      have hki : (k : Int) < (fs.length : Int) := by omega
      have HIN : Hid (fs[k].lf = false → fs[k].bd ∈ bnds fs) := fun h => by
        unfold bnds
        exact List.mem_map.2 ⟨fs[k], List.mem_filter.2 ⟨List.getElem_mem hlt, by simp [h]⟩, rfl⟩
      have HTK : Hid (bnds (fs.take (k + 1)) = bnds (fs.take k) ++ bnds [fs[k]]) := by
        show _ = _
        unfold bnds
        rw [List.take_succ_eq_append_getElem hlt, List.filter_append, List.map_append]
      generalize fs[k] = y at *
      have hsz := hbr.size
      obtain ⟨ylf, yan, ybd, yls, ymr⟩ := y
      dsimp only at y0 y1 y2 y3 y4 HIN
      cases ylf
      · have HI2 := Lib.hid (HIN.out rfl)
        have HT2 : Hid (bnds (fs.take (k + 1)) = bnds (fs.take k) ++ [ybd]) := by
          show _ = _
          rw [HTK.out]; simp [bnds]
        clear HIN HTK
        go_wp2_with fail
        have H64 : ∀ x ∈ ys, I64 x := fun x hx => HBD.out x (hS.out x hx)
        have hbN : Below wr.heap.size wr (wr.alloc (.cells #[.bool false, .int .i64 yan, .int .i64 ybd, .int .i64 yls, .int .i64 ymr] 61)) := (Below.refl _ _).alloc (Nat.le_refl _) _
        have hon := hO.out.alloc (.cells #[.bool false, .int .i64 yan, .int .i64 ybd, .int .i64 yls, .int .i64 ymr] 61)
        refine (containsI_any _ ys ybd _ (ints_of_own H64 hon)).mono ?_; rintro e w' ⟨r, rfl, hr, q, rfl⟩
        have HBN := Lib.hid ((hbr.trans (hbN.mono hsz)))
        have HON := Lib.hid hon
        have HR := Lib.hid hr
        have z0 := size_alloc wr (.cells #[.bool false, .int .i64 yan, .int .i64 ybd, .int .i64 yls, .int .i64 ymr] 61)
        have ZZ := Lib.hid z0
        clear hon hr hbN H64 z0 y0 y1 y2 y3 y4
        cases r
        · have hno : ¬ ybd ∈ ys := fun h => by have := HR.out.2 h; simp at this
          go_wp2_with (at_builtin; refine wpList_append_own _ rfl _ _ 34 rfl v5.heap.size 3 i0 (.int .i64 0) 1 8 Try.underlying34 hi hzi0 hzi1 hzi2 rfl (by decide) (.slice ao ys.length co) ys.length (ys.flatMap encI) rfl (World.ownsRow.alloc (w := (wr.alloc (.cells #[.bool false, .int .i64 yan, .int .i64 ybd, .int .i64 yls, .int .i64 ymr] 61)).drewN q) HON.out _) ⟨wr.heap.size + 1, 0, none⟩ 1 1 [.int .i64 ybd] rfl rfl (cells_at _ _ _ _ _ (size_alloc wr _).symm rfl) (by intro u hu; simp at hu; subst hu; rfl) (by unfold maxLen; omega) (by omega) (by rw [size_alloc]; exact Nat.le_trans hsz (Nat.le_trans (size_le_push_ wr _) (Nat.le_succ _))) ?_; intro v' w6 hown' hgrow _)
          have HY : Hid (∀ x ∈ ys ++ [ybd], x ∈ bnds fs) := fun x hx => by
            rcases List.mem_append.1 hx with h | h
            · exact hS.out x h
            · rw [List.mem_singleton.1 h]; exact HI2.out
          have HNEW : Hid (∀ x ∈ bnds (fs.take (k + 1)), x ∈ ys ++ [ybd]) := by
            show ∀ x ∈ _, _
            rw [HT2.out]
            intro x hx
            rcases List.mem_append.1 hx with h | h
            · exact List.mem_append_left _ (hA.out x h)
            · exact List.mem_append_right _ h
          have hB : Below v5.heap.size v5 w6 := ((below_draws HBN.out q).alloc (Nat.le_trans hsz (size_le_push_ wr _)) _).grown hgrow (by rw [size_alloc]; exact Nat.le_trans hsz (Nat.le_trans (size_le_push_ wr _) (Nat.le_succ _))) (fun g hg => (HON.out.lt g hg).1)
          have HO7 := Lib.hid (own_snoc hown')
          clear hown' hgrow hno HR
          go_wp2_with fail
          go_roundw
          case rel =>
            exact ⟨k + 1, ys ++ [ybd], by omega, by go_num, HO7, HY, HNEW, by rw [List.length_append]; simp; omega, hB⟩
          case measure => simp [intOf]; omega
        · have hin : ybd ∈ ys := HR.out.1 rfl
          have HNEW : Hid (∀ x ∈ bnds (fs.take (k + 1)), x ∈ ys) := by
            show ∀ x ∈ _, _
            rw [HT2.out]
            intro x hx
            rcases List.mem_append.1 hx with h | h
            · exact hA.out x h
            · rw [List.mem_singleton.1 h]; exact hin
          clear HR
          go_wp2_with fail
          go_roundw
          case rel =>
            exact ⟨k + 1, ys, by omega, by go_num, HON, hS, HNEW, by omega, below_draws HBN.out _⟩
          case measure => simp [intOf]; omega
      · have HT2 : Hid (bnds (fs.take (k + 1)) = bnds (fs.take k)) := by
          show _ = _
          rw [HTK.out]; simp [bnds]
        clear HIN HTK
        go_wp2_with fail
        go_roundw
        case rel => exact ⟨k + 1, ys, by omega, by go_num, hO.out.alloc _, hS, by show ∀ x ∈ _, _; rw [HT2.out]; exact hA.out, by omega, hbr.alloc hsz _⟩
        case measure => simp [intOf]; omega
    · have hkx : k = fs.length := by omega
      have HAL : Hid (∀ x ∈ bnds fs, x ∈ ys) := by
        have := hA.out
        rw [hkx, List.take_of_length_le (Nat.le_refl _)] at this
        exact this
      have hy41 : ys.length ≤ 41 := by omega
      have HB6 := Lib.hid hbr
      obtain ⟨n, hn⟩ : ∃ n, n = ys.length := ⟨_, rfl⟩
      rw [← hn] at hy41
      have HYN := Lib.hid hn
      clear hkx hA hyl hbr hn
      go_upto_block 2 with (fail)
      clear hlt
      obtain ⟨W6, hW6⟩ : ∃ W6, W6 = wr := ⟨_, rfl⟩
      rw [← hW6] at hO HB6
      rw [← hW6]
      clear hW6
      rw [← HYN.out] at hO ⊢
      go_cut [18] (fun u wx => ∃ (q : Nat), q ≤ 6 ∧ u = .int .i64 ((q + 1 : Nat) : Int) ∧ Hid (n + 1 ≤ 2 ^ q) ∧ wx = W6)
      case first =>
        go_wp2_with fail
        go_loopw [18] (fun t wx => ∃ (q : Nat), q ≤ 6 ∧ t = .int .i64 ((q + 1 : Nat) : Int) ∧ wx = W6) (fun t _ => (8 - intOf t).toNat)
        case atStart => exact ⟨0, by omega, rfl, rfl⟩
        case round =>
          obtain ⟨q, hq6, rfl, rfl⟩ := hrel
          have hsh : ∀ i : Nat, i ≤ 6 → i = 0 ∨ i = 1 ∨ i = 2 ∨ i = 3 ∨ i = 4 ∨ i = 5 ∨ i = 6 := fun i h => by omega
          rcases hsh q hq6 with rfl | rfl | rfl | rfl | rfl | rfl | rfl
          · clear hsh hq6
            rcases Nat.lt_or_ge 1 (n + 1) with h | h
            · have hI : (1 : Int) < (n : Int) + 1 := by omega
              go_wp2_with fail
              exact ⟨⟨1, by omega, rfl, trivial⟩, by simp [intOf]⟩
            · have hI : ¬ (1 : Int) < (n : Int) + 1 := by omega
              have hN : n + 1 ≤ 2 ^ 0 := by omega
              go_wp2_with fail
              go_meet
              exact ⟨0, by omega, rfl, hN, rfl⟩
          · clear hsh hq6
            rcases Nat.lt_or_ge 2 (n + 1) with h | h
            · have hI : (2 : Int) < (n : Int) + 1 := by omega
              go_wp2_with fail
              exact ⟨⟨2, by omega, rfl, trivial⟩, by simp [intOf]⟩
            · have hI : ¬ (2 : Int) < (n : Int) + 1 := by omega
              have hN : n + 1 ≤ 2 ^ 1 := by omega
              go_wp2_with fail
              go_meet
              exact ⟨1, by omega, rfl, hN, rfl⟩
          · clear hsh hq6
            rcases Nat.lt_or_ge 4 (n + 1) with h | h
            · have hI : (4 : Int) < (n : Int) + 1 := by omega
              go_wp2_with fail
              exact ⟨⟨3, by omega, rfl, trivial⟩, by simp [intOf]⟩
            · have hI : ¬ (4 : Int) < (n : Int) + 1 := by omega
              have hN : n + 1 ≤ 2 ^ 2 := by omega
              go_wp2_with fail
              go_meet
              exact ⟨2, by omega, rfl, hN, rfl⟩
          · clear hsh hq6
            rcases Nat.lt_or_ge 8 (n + 1) with h | h
            · have hI : (8 : Int) < (n : Int) + 1 := by omega
              go_wp2_with fail
              exact ⟨⟨4, by omega, rfl, trivial⟩, by simp [intOf]⟩
            · have hI : ¬ (8 : Int) < (n : Int) + 1 := by omega
              have hN : n + 1 ≤ 2 ^ 3 := by omega
              go_wp2_with fail
              go_meet
              exact ⟨3, by omega, rfl, hN, rfl⟩
          · clear hsh hq6
            rcases Nat.lt_or_ge 16 (n + 1) with h | h
            · have hI : (16 : Int) < (n : Int) + 1 := by omega
              go_wp2_with fail
              exact ⟨⟨5, by omega, rfl, trivial⟩, by simp [intOf]⟩
            · have hI : ¬ (16 : Int) < (n : Int) + 1 := by omega
              have hN : n + 1 ≤ 2 ^ 4 := by omega
              go_wp2_with fail
              go_meet
              exact ⟨4, by omega, rfl, hN, rfl⟩
          · clear hsh hq6
            rcases Nat.lt_or_ge 32 (n + 1) with h | h
            · have hI : (32 : Int) < (n : Int) + 1 := by omega
              go_wp2_with fail
              exact ⟨⟨6, by omega, rfl, trivial⟩, by simp [intOf]⟩
            · have hI : ¬ (32 : Int) < (n : Int) + 1 := by omega
              have hN : n + 1 ≤ 2 ^ 5 := by omega
              go_wp2_with fail
              go_meet
              exact ⟨5, by omega, rfl, hN, rfl⟩
          · clear hsh hq6
            rcases Nat.lt_or_ge 64 (n + 1) with h | h
            · omega
            · have hI : ¬ (64 : Int) < (n : Int) + 1 := by omega
              have hN : n + 1 ≤ 2 ^ 6 := by omega
              go_wp2_with fail
              go_meet
              exact ⟨6, by omega, rfl, hN, rfl⟩
      case rest =>
        obtain ⟨q, hq6, rfl, hnq, rfl⟩ := hcut
        obtain ⟨mo, hmo⟩ : ∃ mo : Int, mo = ((q + 1 : Nat) : Int) := ⟨_, rfl⟩
        rw [← hmo]
        have HMO := Lib.hid hmo
        clear hmo
        have HO3 := Lib.hid (LO3.out.below HB6.out LO3.out.2.2.2)
        have HR3 := Lib.hid (LR3.out.mono HB6.out)
        have HO4b := Lib.hid (LO4.out.below HB6.out LO4.out.2.2.2)
        have HR4 := Lib.hid (LR4.out.mono HB6.out)
        have HBW6 := Lib.hid (LB.out.trans (HB6.out.mono (Nat.le_of_lt LF.out.2.2.2)))
        have hmm := @run_makeMap Try.prog
        obtain ⟨p0, p1, -, p3⟩ := HO3.out
        clear LO3 LR3 LO4 LR4
        go_wp2_with fail
        have HW7 : Hid (MpB (wc.alloc (.map #[] 0)) wc.heap.size 0 (.map [])) := World.ownsMap_made (H := Unit) wc Try.prog 61 (plainElem Try.prog 4)
        have HB7 : Hid (Below wc.heap.size wc (wc.alloc (.map #[] 0))) := Lib.hid ((Below.refl _ _).alloc (Nat.le_refl _) _)
        have HZ7 : Hid (wc.heap.size < (wc.alloc (.map #[] 0)).heap.size) := by show _ < _; rw [size_alloc]; omega
        have HND : Hid (∀ i j (hi : i < g3.nodes.length) (hj : j < g3.nodes.length), i ≠ j → g3.nodes[i] ≠ g3.nodes[j]) := by
          have h := HG3.out
          rw [HO2.out] at h
          exact h.nod_dup
        obtain ⟨nb, cb, e3, -⟩ := HR3.out.1.shape
        have h8 := HE3.out
        clear p0 p1 p3 hmm e3
        generalize wc.alloc (.map #[] 0) = W7 at *
        go_loopw [119] (fun t wr => ∃ (k : Nat) (DD : DataW Unit), k ≤ g3.nodes.length ∧ t = .int .i64 (k : Int) ∧ Hid (MpB wr wc.heap.size k DD ∧ SnM DD (g3.nodes.take k)) ∧ Hid (Below wc.heap.size wc wr) ∧ wc.heap.size < wr.heap.size) (fun t _ => (g3.nodes.length - intOf t).toNat)
        case atStart => exact ⟨0, .map [], by omega, rfl, ⟨HW7.out, SnM.zero⟩, HB7, HZ7.out⟩
        case round =>
          obtain ⟨k, DD, hk, rfl, hM, hbr, hz⟩ := hrel
          by_cases hlt : k < g3.nodes.length
          · obtain ⟨b, off, e1, hbb, y0, y1, y2, y3, y4⟩ := elemNod (HR3.out.1.mono hbr.out fun _ _ h => h) k hlt
            have hy := HN3.out g3.nodes[k] (List.getElem_mem hlt)
            have hki : (k : Int) < (g3.nodes.length : Int) := by omega
            have HNI : Hid (¬ g3.nodes[k] ∈ g3.nodes.take k) := fun h => by
              obtain ⟨j, hj, e⟩ := List.mem_iff_getElem.1 h
              rw [List.length_take] at hj
              rw [List.getElem_take] at e
              exact HND.out j k (by omega) hlt (by omega) e
            have HTK : Hid (g3.nodes.take (k + 1) = g3.nodes.take k ++ [g3.nodes[k]]) := List.take_succ_eq_append_getElem hlt
            have HY := Lib.hid hy
            clear hy
            generalize g3.nodes[k] = y at *
            subst e1
            have HM2 : Hid (MpB (wr.alloc (.cells #[.bool y.lf, .int .i64 y.an, .int .i64 y.bd, .int .i64 y.ls, .int .i64 y.mr] 61)) wc.heap.size k DD) := hM.out.1.block (Below.heap_alloc _ _ _ hz)
            have HB2 : Hid (Below wc.heap.size wc (wr.alloc (.cells #[.bool y.lf, .int .i64 y.an, .int .i64 y.bd, .int .i64 y.ls, .int .i64 y.mr] 61))) := hbr.out.alloc (Nat.le_of_lt hz) _
            have HKK := Lib.hid (kN_eq HY.out)
            go_wp2_with (first | (at_lookup; refine wpList_lookup_nodB _ rfl _ _ rfl wc.heap.size k DD _ rfl HM2.out hM.out.2 y HY.out rfl ?_; intro c hc; obtain rfl : c = false := by { cases c with | false => rfl | true => exact absurd (hc.1 rfl) HNI.out }) | (at_mapUpdate; refine wpList_mapUpdate_own (H := Unit) _ rfl _ _ _ 63 rfl 61 4 nlaw Try.underlying63 (plainElem Try.prog 4) wc.heap.size k DD rfl HM2.out (by unfold maxLen; omega) (nV y) (.bool true) (kN y) rfl rfl HKK.out (.lit (.bool true)) [] (plainElem_bool ubool true) ?_; intro w8 hom hgm))
            have HM8 : Hid (MpB w8 wc.heap.size (k + 1) (DD.put (kN y) (.lit (.bool true))) ∧ SnM (DD.put (kN y) (.lit (.bool true))) (g3.nodes.take (k + 1))) := ⟨hom, by rw [HTK.out]; exact hM.out.2.put HY.out⟩
            have HB8 : Hid (Below wc.heap.size wc w8) := HB2.out.grown hgm (by rw [size_alloc]; omega) (fun g hg => by simp at hg; omega)
            have hz8 : wc.heap.size < w8.heap.size := Nat.lt_of_lt_of_le (by rw [size_alloc]; omega) hgm.size
            clear hom hgm
            go_wp2_with fail
            go_roundw
            case rel => exact ⟨k + 1, _, by omega, by go_num, HM8, HB8, hz8⟩
            case measure => simp [intOf]; omega
          · have HB9 := hbr
            have HAS : Hid (∀ (t : Int) (Wx : World), I64 t → FrsAt Wx (.slice a4 g4.nodes.length c4) (.slice b4 g4.answers.length d4) g4 → ∃ c : Nat, c ≤ q + 1 ∧ Calls Try.prog 29 #[.agg #[.slice a4 g4.nodes.length c4, .slice b4 g4.answers.length d4], .int .i64 t] Wx fun e w' => e = .returned (.int .i64 (c : Int)) ∧ Below Wx.heap.size Wx w') := fun t Wx h64 hfx => by
              have hg := HG4.out
              rw [HO4.out] at hg
              obtain ⟨j, c, hP, -, hc⟩ := hg.tells HT.out (t := t) (i64_ge h64)
              have hcl := at_cuts (ns := f.nodes) (at' := ys) (by rw [HFS.out]; exact HAL.out)
              refine ⟨c, hc rfl q (by have := HYN.out; have := hnq.out; omega), kasked_any g4 _ _ t j c Wx hfx hP ?_ HE4.out⟩
              exact (hg.nodes_ok HT.out).1
            have HBZ : Hid (Below wc.heap.size wc wr) := hbr
            have HV4 : Hid (SlAt wc 1 RInt (.slice ao n co) ys) := by
              have h := hO.out
              have hn := HYN.out
              rw [hn] at h ⊢
              exact ints_of_own (fun x hx => HBD.out x (hS.out x hx)) h
            have HY64 : Hid (∀ x ∈ ys, I64 x) := fun x hx => HBD.out x (hS.out x hx)
            have hWc := HBW1.out.trans (HBW6.out.mono HWD.out)
            have HWR : Hid (Below W.heap.size W wr) := hWc.trans (hbr.out.mono hWc.size)
            clear hWc
            have HZ : Hid (n = ys.length) := HYN.out
            have HQ : Hid (mo = ((q + 1 : Nat) : Int)) := HMO.out
            go_wp2_with fail
            obtain ⟨wx, hwx⟩ : ∃ wx, wx = wr := ⟨_, rfl⟩
            have HX4 := Lib.hid (HO4b.out.below HBZ.out HO4b.out.2.2.2)
            have HXR := Lib.hid (HR4.out.mono HBZ.out)
            have HXV := Lib.hid (HV4.out.mono HBZ.out fun _ _ h => h)
            rw [← hwx] at HX4 HXR HXV HWR
            rw [← hwx]
            clear hbr HB9 HBZ hM hwx
            go_loopw [131] (fun t wz => ∃ k : Nat, k ≤ n ∧ t = .int .i64 (k : Int) ∧ Hid (Below wx.heap.size wx wz)) (fun t _ => (n - intOf t).toNat)
            case atStart => exact ⟨0, by omega, rfl, Below.refl _ _⟩
            case round =>
              obtain ⟨k, hk, rfl, hbz⟩ := hrel
              by_cases hlt : k < n
              · have hly : k < ys.length := by have := HZ.out; omega
                obtain ⟨b, off, e1, hbb, y0⟩ := elemInt (HXV.out.mono hbz.out fun _ _ h => h) k hly
                have h64 := HY64.out ys[k] (List.getElem_mem hly)
                have hki : (k : Int) < (n : Int) := by omega
                have H64 := Lib.hid h64
                clear h64
                generalize ys[k] = y at *
                clear hly
                subst e1
                have HP4 := Lib.hid (HX4.out.below hbz.out HX4.out.2.2.2)
                have HG4 := Lib.hid (HXR.out.mono hbz.out)
                obtain ⟨p0, p1, -, p3⟩ := HP4.out
                obtain ⟨c, hc, hcall⟩ := HAS.out y _ H64.out HG4.out
                have hcm : ¬ mo < (c : Int) := by have := HQ.out; omega
                have HC := Lib.hid hcall
                clear hcall
                go_wp2_with fail
                refine HC.out.mono ?_; rintro e w8 ⟨rfl, hb8⟩
                have HP8 := Lib.hid (HP4.out.below hb8 HP4.out.2.2.2)
                have HB8 := Lib.hid hb8
                obtain ⟨c2, hc2, hcall2⟩ := HAS.out (wrap64 (y - 1)) _ (wrap64_wf _) (HG4.out.mono hb8)
                have hcm2 : ¬ mo < (c2 : Int) := by have := HQ.out; omega
                have HC2 := Lib.hid hcall2
                clear p0 p1 p3 hb8 hcall2
                obtain ⟨p0, p1, -, p3⟩ := HP8.out
                go_wp2_with fail
                refine HC2.out.mono ?_; rintro e w9 ⟨rfl, hb9⟩
                have HB9 := Lib.hid ((hbz.out.trans (HB8.out.mono hbz.out.size)).trans (hb9.mono (Nat.le_trans hbz.out.size HB8.out.size)))
                clear p0 p1 p3 hb9
                go_wp2_with fail
                go_roundw
                case rel => exact ⟨k + 1, by omega, by go_num, HB9⟩
                case measure => simp [intOf]; omega
              · go_wp2_with fail
                go_ret
                exact ⟨rfl, HWR.out.trans (hbz.out.mono HWR.out.size)⟩
end Go.Proofs.Ytlhidbbphngpcaa
