/-
  The document's verification.
-/
import Derived.Test.YtpnmaopompfalaaCodG
import Derived.Test.YtpnmaopompfalaaCodB
import Derived.Deep.DeepCutAuto
import Derived.Deep.CutRange
import Derived.Deep.CutBlock
namespace Go.Proofs.Ytpnmaopompfalaa
set_option linter.unusedVariables false
set_option linter.unusedSimpArgs false
open Go.ChangeShapes Go.WideShapes Go.ChangeAt Go.RowKit

theorem vlaw : Maps.Keyed Try.prog 3 := Maps.int_keyed Try.underlying3
theorem vzero (w : World) : (zeroValue 3).run Try.prog w = .ok (.int .i64 0) w := by kernel_rfl
theorem pel (t : Int) (h : I64 t) : plainElem Try.prog 3 (.int .i64 t) = some (dI t, []) := by
  unfold plainElem
  simp only [Try.underlying3]
  have h' : (Lit.int .i64 t).wf = true := h
  simp [h', dI]
set_option maxRecDepth 100000 in
set_option maxHeartbeats 4000000 in
theorem verifyOf_bad (p : Prg) (vc vp va : Value) (w : World) (hp : PrgAt w vc vp va p) (hb : prgE p ≠ 0) :
    Calls Try.prog 42 #[.agg #[vc, vp, va]] w fun e w' => e = .returned (.tuple #[.int .i64 0, .int .i64 0, .int .i64 (prgE p)]) ∧ Below w.heap.size w w' := by
  have HP := Lib.hid hp
  obtain ⟨r, hr⟩ : ∃ r, r = prgE p := ⟨_, rfl⟩
  have hne : (r != 0) = true := by rw [bne_iff_ne, hr]; exact hb
  rw [← hr]
  have HR := Lib.hid hr
  have bw : Below w.heap.size w (w.alloc (.cells #[vc, vp, va] 58)) := (Below.refl _ _).alloc (Nat.le_refl _) _
  clear hp hb hr
  go_enter Try.func42, Try.ntmps42
  go_wp2_with fail
  refine (programFault_any p _ _ _ _ (HP.out.mono bw)).mono ?_; rintro e w1 ⟨rfl, hb1⟩
  rw [← HR.out]
  go_wp2
  go_ret3
  exact ⟨rfl, below_in hb1⟩
/-- the map of block b reads as D. -/
def MpI (w : World) (b n : Nat) (D : DataW Unit) : Prop := w.ownsMap Try.prog 3 (plainElem Try.prog 3) b n D
theorem MpI.block {w w' : World} {b n : Nat} {D : DataW Unit} (h : MpI w b n D) (hb : w'.heap[b]? = w.heap[b]?) : MpI w' b n D := by
  obtain ⟨es, clock, h1, h2⟩ := h
  exact ⟨es, clock, hb.trans h1, h2⟩
theorem MpI.below {w w' : World} {b n : Nat} {D : DataW Unit} (h : MpI w b n D) (hb : Below w.heap.size w w') : MpI w' b n D := h.block (hb.block b h.lt)
theorem MpI.other {w w' : World} {b c n : Nat} {D : DataW Unit} (h : MpI w b n D) (hg : w.grownBy w' (some c)) (hne : b ≠ c) : MpI w' b n D := h.block (hg.block b h.lt (fun e => hne (Option.some.inj e)))
theorem lo_run {w : World} {b n : Nat} {D : DataW Unit} {ll : List Int} (h : MpI w b n D) (hl : LoM D ll) (t : Nat) (ht : t < ll.length) (h8 : t ≤ 100000) :
    (Instr.lookup 103 (.map (some b)) (.int .i64 t) false).run Try.prog w = .ok (.int .i64 (gI ll t)) w := by
  obtain ⟨c, hrun, hat, _⟩ := World.ownsMap.lookup_int h vlaw Try.underlying103 Try.underlying3 (vzero w) (key_int t (i64_nat t h8))
  have h2 := hl.2 t ht
  have h3 : D.atKey (kI t) (dI 0) = .lit (.int .i64 c) := hat
  rw [h2] at h3
  unfold dI at h3
  simp at h3
  rw [h3]
  exact hrun
theorem dI_inj {a c : Int} (h : dI a = .lit (.int .i64 c)) : c = a := by
  unfold dI at h
  simp at h
  exact h.symm
theorem own_at {w : World} {B ct b o : Nat} {e : TypeId} {ts : List Int} (h64 : ∀ x ∈ ts, I64 x) (h : w.ownsRow B e 1 (.slice (some ⟨b, o, none⟩) ts.length ct) ts.length (ts.flatMap encI)) (j : Nat) (hj : j < ts.length) {t : Int} (ht : ts[j] = t) : w.cell? ⟨b, o + j, none⟩ = some (.int .i64 t) := by
  obtain ⟨b', o', he, _, e0, _⟩ := elemInt (ints_of_own h64 h) j hj
  simp at he
  obtain ⟨rfl, rfl⟩ := he
  rw [← ht]
  exact e0
theorem World.ownsRow.drewN {w : World} {B n sz : Nat} {e : TypeId} {v : Value} {xs : List Value} (h : w.ownsRow B e sz v n xs) (q : Nat) : (w.drewN q).ownsRow B e sz v n xs := h
theorem still_lookup {P : Program} {ops : Array Oper} {w : World} {Q : Act → Prop} {a : Act} {o : Oper} {rest : List Oper} (hg : o.guard = none) (m x : Operand) (t : TypeId) (hop : o.op = Op.lookup t m x false) (v : Value)
    (hrun : (Instr.lookup t (a.eval m) (a.eval x) false).run P w = .ok v w) (h : wpStill P ops w Q rest (a.put o.dst v)) : wpStill P ops w Q (o :: rest) a := by
  refine wpStill_step (fun K hK => ?_)
  have hw : Region.wanted o (yielded ops a.tmps) = true := by unfold Region.wanted; rw [hg]
  rw [if_pos hw]
  unfold Oper.still
  simp [execOp, hop, hrun, Oper.stillUpon, Result.andThen]
  exact hK _ h
theorem own_kept {w w' : World} {B c n sz : Nat} {e : TypeId} {v : Value} {xs : List Value} (h : w.ownsRow B e sz v n xs) (hg : w.grownBy w' (some c)) (hc : c < B) : w'.ownsRow B e sz v n xs := by
  refine World.ownsRow.kept h hg ?_
  match hv : v.ownBlock with
  | none => exact .inl rfl
  | some D =>
    right
    intro e'
    have := (World.ownsRow.lt h D hv).1
    obtain rfl := Option.some.inj e'
    omega
theorem on_bad {D : DataW Unit} {dl : List Int} (h : OnM D dl) (u : Nat) (hu : u < dl.length) (A : Int) (c : Int) (hat : D.atKey (kI u) (dI 0) = .lit (.int .i64 c)) :
    (Maps.has D (kI u) = true ∧ (c != A) = true ∧ gI dl u ≠ 0 ∧ gI dl u ≠ A + 1) ∨ (Maps.has D (kI u) = false ∧ ¬ (gI dl u ≠ 0 ∧ gI dl u ≠ A + 1)) ∨ (Maps.has D (kI u) = true ∧ (c != A) = false ∧ ¬ (gI dl u ≠ 0 ∧ gI dl u ≠ A + 1)) := by
  obtain ⟨h1, h2⟩ := h.2 u hu
  by_cases g : gI dl u = 0
  · exact .inr (.inl ⟨by rw [h1]; simp [g], fun h => h.1 g⟩)
  · have h3 : Maps.has D (kI u) = true := by rw [h1]; simp [g]
    have h4 := dI_inj ((h2 g).symm.trans hat)
    by_cases e : c = A
    · exact .inr (.inr ⟨h3, bne_eq_false_iff_eq.2 e, fun h => h.2 (by omega)⟩)
    · exact .inl ⟨h3, bne_iff_ne.2 e, g, by omega⟩
theorem mx_set {l : List Int} {u : Nat} {v : Int} (h : ¬ gI l u < v) (hu : u < l.length) : l.set u (if gI l u < v then v else gI l u) = l := by
  rw [if_neg h]
  unfold gI
  rw [Int.toNat_natCast, List.getD_eq_getElem?_getD, List.getElem?_eq_getElem hu]
  exact List.set_getElem_self hu
theorem need_more (op c : Int) (hop : op = 1 ∨ op = 2 ∨ op = 3 ∨ op = 4 ∨ op = 5 ∨ op = 6) : (op = 1 ∨ op = 2) ∧ needI op = 0 ∧ c + moreI op = c + 1 ∨ op = 3 ∧ needI op = 2 ∧ c + moreI op = c - 1 ∨ op = 4 ∧ needI op = 1 ∧ c + moreI op = c - 1 ∨ (op = 5 ∨ op = 6) ∧ needI op = 0 ∧ c + moreI op = c := by
  rcases hop with rfl | rfl | rfl | rfl | rfl | rfl
  · exact .inl ⟨.inl rfl, rfl, rfl⟩
  · exact .inl ⟨.inr rfl, rfl, rfl⟩
  · exact .inr (.inl ⟨rfl, rfl, rfl⟩)
  · exact .inr (.inr (.inl ⟨rfl, rfl, rfl⟩))
  · exact .inr (.inr (.inr ⟨.inl rfl, rfl, Int.add_zero c⟩))
  · exact .inr (.inr (.inr ⟨.inr rfl, rfl, Int.add_zero c⟩))
set_option maxRecDepth 100000 in
set_option maxHeartbeats 8000000 in
theorem verifyOf_good (p : Prg) (vc vp va : Value) (w : World) (hp : PrgAt w vc vp va p) (hg : prgE p = 0) :
    Calls Try.prog 42 #[.agg #[vc, vp, va]] w fun e w' => e = .returned (.tuple #[.int .i64 (verE p).1, .int .i64 (verE p).2.1, .int .i64 (verE p).2.2]) ∧ Below w.heap.size w w' := by
  obtain ⟨g0, g1, g2, g3, g4, g5⟩ := prg_good hg
  obtain ⟨ac, cc, hvc, lc⟩ := hp.1.shape
  have HP := Lib.hid hp
  have HG := Lib.hid hg
  have HN := Lib.hid (fun i (hi : i < p.code.length) => ins_n8 hg hi)
  have bw : Below w.heap.size w (w.alloc (.cells #[vc, vp, va] 58)) := (Below.refl _ _).alloc (Nat.le_refl _) _
  have hs := size_alloc w (.cells #[vc, vp, va] 58)
  have b0 : ∀ j, (w.alloc (.cells #[vc, vp, va] 58)).cell? ⟨w.heap.size, j, none⟩ = #[vc, vp, va][j]? := fun j => World.cell?_alloc_at (w := w) _ _ w.heap.size j rfl
  have HS := Lib.hid hs
  have hB0 := Lib.hid b0
  have hx0 : (0 : Int) < (p.code.length : Int) := by omega
  have hx1 : (p.code.length : Int) ≤ 8000 := by omega
  have hx2 : 0 < p.code.length := g0
  clear hp hg g0 g1 g2 g3 g4 g5 lc hs b0
  subst hvc
  go_enter Try.func42, Try.ntmps42
  go_wp2_with fail
  refine (programFault_any p _ _ _ _ (HP.out.mono bw)).mono ?_; rintro e w1 ⟨rfl, hb1⟩
  have hz : w.heap.size < (w.alloc (.cells #[.slice ac p.code.length cc, vp, va] 58)).heap.size := by rw [HS.out]; omega
  have q0 : w1.cell? ⟨w.heap.size, 0, none⟩ = some (.slice ac p.code.length cc) := (hb1.cell (p := ⟨w.heap.size, 0, none⟩) hz).trans (hB0.out 0)
  have q1 : w1.cell? ⟨w.heap.size, 1, none⟩ = some vp := (hb1.cell (p := ⟨w.heap.size, 1, none⟩) hz).trans (hB0.out 1)
  have q2 : w1.cell? ⟨w.heap.size, 2, none⟩ = some va := (hb1.cell (p := ⟨w.heap.size, 2, none⟩) hz).trans (hB0.out 2)
  have hw1 := bw.trans (hb1.mono bw.size)
  have hz1' : w.heap.size < w1.heap.size := Nat.lt_of_lt_of_le hz hb1.size
  rw [HG.out]
  have HC := Lib.hid (HP.out.mono hw1)
  have hmm := @run_makeMap Try.prog
  clear hb1 HS hB0 bw hz
  go_wp2_with (first | (refine wpList_insert_own (H := Unit) _ rfl _ _ _ 103 rfl 3 3 vlaw Try.underlying103 (plainElem Try.prog 3) w1.heap.size 0 (.map []) rfl (World.ownsMap_made _ _ _ _) (by decide) (.int .i64 0) (.int .i64 0) (kI 0) rfl rfl (key_int 0 i64_zero) (dI 0) [] (pel 0 i64_zero) ?_; intro w2 hom1 hgr1) | (refine wpList_insert_own (H := Unit) _ rfl _ _ _ 103 rfl 3 3 vlaw Try.underlying103 (plainElem Try.prog 3) w2.heap.size 0 (.map []) rfl (World.ownsMap_made _ _ _ _) (by decide) (.int .i64 0) (.int .i64 1) (kI 0) rfl rfl (key_int 0 i64_zero) (dI 1) [] (pel 1 (i64_nat 1 (by decide))) ?_; intro w3 hom2 hgr2))
  have hB7 : w1.heap.size < w2.heap.size := World.ownsMap.lt hom1
  have hB8 : w2.heap.size < w3.heap.size := World.ownsMap.lt hom2
  have M1 : MpI w2 w1.heap.size 1 ((DataW.map []).put (kI 0) (dI 0)) := hom1
  have M2 : MpI w3 w2.heap.size 1 ((DataW.map []).put (kI 0) (dI 1)) := hom2
  have bA : Below w1.heap.size w1 w2 := ((Below.refl _ _).alloc (Nat.le_refl _) _).grown hgr1 (Nat.le_of_lt (by rw [size_alloc]; exact Nat.lt_succ_self _)) (fun g hg => by cases hg; exact Nat.le_refl _)
  have bB : Below w2.heap.size w2 w3 := ((Below.refl _ _).alloc (Nat.le_refl _) _).grown hgr2 (Nat.le_of_lt (by rw [size_alloc]; exact Nat.lt_succ_self _)) (fun g hg => by cases hg; exact Nat.le_refl _)
  have M1' := Lib.hid (M1.below bB)
  have M2' := Lib.hid M2
  have hO0 : Hid (OnM ((DataW.map []).put (kI 0) (dI 0)) (v0 p.code.length).dl) := by
    have h0 : OnM (DataW.map []) (List.replicate p.code.length 0) := ⟨Maps.isMap_empty, fun t ht => ⟨by rw [rep_zero]; rfl, fun h => absurd (rep_zero _ t) h⟩⟩
    have := h0.put 0 0 (by decide) (by rw [List.length_replicate]; exact hx2)
    have e : (List.replicate p.code.length (0 : Int)).set 0 (0 + 1) = (v0 p.code.length).dl := by
      unfold v0
      match hn : p.code.length, hx2 with
      | n + 1, _ => rfl
    rw [e] at this
    exact this
  have hL0 : Hid (LoM ((DataW.map []).put (kI 0) (dI 1)) (v0 p.code.length).ll) := by
    have h0 : LoM (DataW.map []) (List.replicate p.code.length 0) := ⟨Maps.isMap_empty, fun t ht => by rw [rep_zero]; rfl⟩
    have := h0.put 0 1 (by rw [List.length_replicate]; exact hx2)
    have e : (List.replicate p.code.length (0 : Int)).set 0 1 = (v0 p.code.length).ll := by
      unfold v0
      match hn : p.code.length, hx2 with
      | n + 1, _ => rfl
    rw [e] at this
    exact this
  have bC : Below w1.heap.size w1 w3 := bA.trans (bB.mono (Nat.le_of_lt hB7))
  have HI0 : Hid (scan p.code 0 = .inr (v0 p.code.length) ∧ Vinv p.code 0 (v0 p.code.length)) := ⟨rfl, vinv_start p.code hx2⟩
  clear hom1 hom2 hgr1 hgr2 M1 M2 bA bB
  obtain ⟨B7, hb7⟩ : ∃ B, B = w1.heap.size := ⟨_, rfl⟩
  obtain ⟨B8, hb8⟩ : ∃ B, B = w2.heap.size := ⟨_, rfl⟩
  have hzw : w.heap.size < w1.heap.size := hz1'
  have hbe : Below w.heap.size w w1 := hw1
  have hB7e : B7 ≤ w1.heap.size := Nat.le_of_eq hb7
  have hB7f : w1.heap.size ≤ B7 := Nat.le_of_eq hb7.symm
  rw [← hb7] at M1' hB7 hz1' bC ⊢
  rw [← hb8] at M2' hB7 hB8 ⊢
  clear hb7 hb8
  go_loopw [9, 10, 11] (fun mo sp i wr => ∃ (k : Nat) (st : Vst) (D1 D2 : DataW Unit) (n1 n2 : Nat), k ≤ p.code.length ∧ i = .int .i64 k ∧ mo = .int .i64 st.stack ∧ sp = .int .i64 st.steps ∧ Hid (scan p.code k = .inr st ∧ Vinv p.code k st) ∧ Hid (MpI wr B7 n1 D1 ∧ OnM D1 st.dl) ∧ Hid (MpI wr B8 n2 D2 ∧ LoM D2 st.ll) ∧ n1 ≤ 2 * k + 1 ∧ n2 ≤ 2 * k + 1 ∧ Below B7 w1 wr) (fun _ _ i _ => (p.code.length - intOf i).toNat)
  case atStart => exact ⟨0, _, _, _, 1, 1, by omega, rfl, rfl, rfl, HI0, ⟨M1'.out, hO0.out⟩, ⟨M2'.out, hL0.out⟩, by omega, by omega, bC⟩
  case round =>
    obtain ⟨k, st, D1, D2, n1, n2, hk, rfl, rfl, rfl, hsc, hm1, hm2, hn1, hn2, hbr⟩ := hrel
    have q3 := (hbr.cell (p := ⟨w.heap.size, 0, none⟩) hz1').trans q0
    have q4 := (hbr.cell (p := ⟨w.heap.size, 1, none⟩) hz1').trans q1
    have q5 := (hbr.cell (p := ⟨w.heap.size, 2, none⟩) hz1').trans q2
    have hB7r : B7 < wr.heap.size := World.ownsMap.lt hm1.out.1
    have hB8r : B8 < wr.heap.size := World.ownsMap.lt hm2.out.1
    have hzr : w.heap.size < wr.heap.size := by omega
    by_cases hlt : k < p.code.length
    · obtain ⟨hop, hn0, hn8⟩ := HN.out k hlt
      have HIV := hsc.out.2
      have hhs := hm1.out.2.2 k (by rw [HIV.dlen]; exact hlt)
      have HKK := Lib.hid (key_int (k : Nat) (i64_nat k (by omega)))
      have hstep : Hid (∀ st', vstep p.code.length k p.code[k] st = .inr st' → scan p.code (k + 1) = .inr st' ∧ Vinv p.code (k + 1) st') := fun st' h => ⟨scan_ok hlt hsc.out.1 h, vinv_step HIV hlt (fun x hx => by
        obtain ⟨i, hi, rfl⟩ := List.mem_iff_getElem.1 hx
        exact (HN.out i hi).2.1) h⟩
      have herr : Hid (∀ e, vstep p.code.length k p.code[k] st = .inl e → verE p = (0, 0, e)) := fun e h => ver_err HG.out (scan_err hlt hsc.out.1 h)
      have hdp := HIV.dpos k
      have hdl := HIV.dle k
      have hs8 := HIV.s8
      have hs0 := HIV.s0
      have ht0 := HIV.t0
      have htle := HIV.tle
      have hsl0 : gI (sl p.code p.code.length) 0 ≤ (p.code.length : Int) := (sl_bd p.code p.code.length 0).2
      have hDL := Lib.hid (show st.dl.length = p.code.length ∧ st.ll.length = p.code.length from ⟨HIV.dlen, HIV.llen⟩)
      have HVI := Lib.hid HIV
      obtain ⟨dk, hdk⟩ : ∃ d, d = gI st.dl k := ⟨_, rfl⟩
      rw [← hdk] at hhs hdp hdl
      have HDK := Lib.hid hdk
      clear HIV hdk
      by_cases h0 : dk = 0
      · have hhas : Maps.has D1 (kI k) = false := by rw [hhs.1]; simp [h0]
        have H1 : Hid (scan p.code (k + 1) = .inr st ∧ Vinv p.code (k + 1) st) := hstep.out st (by unfold vstep; rw [if_pos (by rw [← HDK.out]; exact h0)])
        clear h0 hhs hop
        go_wp2_with (refine wpList_lookup_own_ok_int (H := Unit) _ rfl _ _ 103 rfl 3 3 .i64 vlaw Try.underlying103 Try.underlying3 (vzero _) B7 n1 D1 rfl hm1.out.1 (.int .i64 k) (kI k) rfl HKK.out ?_; intro c hat hwc; rw [hhas])
        go_roundw
        case rel => exact ⟨k + 1, st, D1, D2, n1, n2, by omega, by go_num, rfl, rfl, H1, hm1, hm2, by omega, by omega, hbr⟩
        case measure => simp [intOf]; omega
      · have hhas : Maps.has D1 (kI k) = true := by rw [hhs.1]; simp [h0]
        have hat1 := hhs.2 h0
        have HAT1 := Lib.hid hat1
        have HNE : Hid (gI st.dl k ≠ 0) := by rw [← HDK.out]; exact h0
        obtain ⟨b, off, rfl, hbb, ⟨c0, c1⟩, _, _⟩ := elemIns HC.out.1 k hlt
        have hbb7 : b < B7 := by omega
        have d0 := (hbr.cell (p := ⟨b, off + k * 2, none⟩) hbb7).trans c0
        have HCR := Lib.hid (HC.out.mono (hbr.mono hB7f))
        obtain ⟨x, hx⟩ : ∃ x, x = p.code[k] := ⟨_, rfl⟩
        rw [← hx] at d0 hstep herr hop hn0 hn8
        have HOP := Lib.hid hop
        have HXX := Lib.hid hx
        obtain ⟨c, hc⟩ : ∃ c, c = dk - 1 := ⟨_, rfl⟩
        rw [← hc] at hat1
        have hcd : dk = c + 1 := by omega
        have HC1 := Lib.hid hcd
        have hc0 : 0 ≤ c := by omega
        have hc8 : c ≤ st.stack := by omega
        have HAT := Lib.hid hat1
        clear c0 c1 hx hhs hc HAT1 hat1
        clear hcd h0 hdp hdl
        obtain ⟨A, hA⟩ : ∃ A, A = c + moreI x.op := ⟨_, rfl⟩
        have HA := Lib.hid hA
        have hEr : Hid (c < needI x.op ∨ 8 < A → verE p = (0, 0, 10)) := fun h => herr.out 10 (by
          unfold vstep
          rw [if_neg HNE.out, if_pos (by rw [← HDK.out, HC1.out, show c + 1 - 1 = c from by omega, ← HA.out]; exact h)])
        have hAeq : Hid ((x.op = 1 ∨ x.op = 2) ∧ needI x.op = 0 ∧ A = c + 1 ∨ x.op = 3 ∧ needI x.op = 2 ∧ A = c - 1 ∨ x.op = 4 ∧ needI x.op = 1 ∧ A = c - 1 ∨ (x.op = 5 ∨ x.op = 6) ∧ needI x.op = 0 ∧ A = c) := by
          rw [hA]; exact need_more x.op c HOP.out
        have hbE := hw1.trans (hbr.mono (Nat.le_of_lt hz1'))
        have hii : (k : Int) < (p.code.length : Int) := by omega
        obtain ⟨op, n⟩ := x
        dsimp only at d0 hn0 hn8 hop
        clear hA
        go_upto_block 2 with (refine wpList_lookup_own_ok_int (H := Unit) _ rfl _ _ 103 rfl 3 3 .i64 vlaw Try.underlying103 Try.underlying3 (vzero _) B7 n1 D1 rfl hm1.out.1 (.int .i64 k) (kI k) rfl HKK.out ?_; intro c' hat hwc; rw [hhas]; obtain rfl := (dI_inj (HAT.out.symm.trans hat)).symm)
        go_cut [14] (fun s14 wx => s14 = .int .i64 A ∧ wr = wx ∧ Hid (needI op ≤ c))
        case first =>
          rcases hAeq.out with ⟨ho | ho, hne, hAA⟩ | ⟨ho, hne, hAA⟩ | ⟨ho, hne, hAA⟩ | ⟨ho | ho, hne, hAA⟩
          · subst ho hAA
            have hN : Hid (needI 1 ≤ c) := by show needI 1 ≤ c; rw [hne]; exact hc0
            clear hne
            go_wp2
            go_meet
            exact ⟨rfl, rfl, hN⟩
          · subst ho hAA
            have hN : Hid (needI 2 ≤ c) := by show needI 2 ≤ c; rw [hne]; exact hc0
            clear hne
            go_wp2
            go_meet
            exact ⟨rfl, rfl, hN⟩
          · subst ho hAA
            rcases (show c < 2 ∨ 2 ≤ c by omega) with h2 | h2
            · have HE := Lib.hid (hEr.out (.inl (by rw [hne]; exact h2)))
              clear hne
              go_wp2
              go_ret3
              exact ⟨by rw [HE.out]; rfl, hbE⟩
            · have hN : Hid (needI 3 ≤ c) := by show needI 3 ≤ c; rw [hne]; exact h2
              clear hne
              go_wp2
              go_meet
              exact ⟨rfl, rfl, hN⟩
          · subst ho hAA
            rcases (show c < 1 ∨ 1 ≤ c by omega) with h2 | h2
            · have HE := Lib.hid (hEr.out (.inl (by rw [hne]; exact h2)))
              clear hne
              go_wp2
              go_ret3
              exact ⟨by rw [HE.out]; rfl, hbE⟩
            · have hN : Hid (needI 4 ≤ c) := by show needI 4 ≤ c; rw [hne]; exact h2
              clear hne
              go_wp2
              go_meet
              exact ⟨rfl, rfl, hN⟩
          · obtain rfl : c = A := hAA.symm
            subst ho
            have hN : Hid (needI 5 ≤ c) := by show needI 5 ≤ c; rw [hne]; exact hc0
            clear hne
            go_wp2
            go_meet
            exact ⟨rfl, rfl, hN⟩
          · obtain rfl : c = A := hAA.symm
            subst ho
            have hN : Hid (needI 6 ≤ c) := by show needI 6 ≤ c; rw [hne]; exact hc0
            clear hne
            go_wp2
            go_meet
            exact ⟨rfl, rfl, hN⟩
        case rest =>
          obtain ⟨rfl, rfl, hneed⟩ := hcut
          have hA1 : -1 ≤ A ∧ A ≤ 9 := by
            have := hAeq.out
            omega
          by_cases h8 : 8 < A
          · have HE := Lib.hid (hEr.out (.inr h8))
            go_wp2
            go_ret3
            exact ⟨by rw [HE.out]; rfl, hbE⟩
          · have hA0 : 0 ≤ A := by
              have h2 := hneed.out
              rcases hAeq.out with ⟨_, h3, h4⟩ | ⟨_, h3, h4⟩ | ⟨_, h3, h4⟩ | ⟨_, h3, h4⟩
              · rw [h4]; omega
              · rw [h3] at h2; rw [h4]; omega
              · rw [h3] at h2; rw [h4]; omega
              · rw [h4]; exact hc0
            have HVIk := HVI.out
            have hlgp := HVIk.lpos k HNE.out
            have hlge := HVIk.lle k hlt HNE.out
            have hsb := (sl_bd p.code p.code.length k).1
            obtain ⟨lg, hlg⟩ : ∃ l, l = gI st.ll k := ⟨_, rfl⟩
            rw [← hlg] at hlgp hlge
            have hlg8 : lg ≤ 8001 := by omega
            have HLG := Lib.hid hlg
            have HATL : Hid (D2.atKey (kI k) (dI 0) = dI lg) := by
              show _ = _
              rw [hlg]
              exact hm2.out.2.2 k (by rw [hDL.out.2]; exact hlt)
            clear HVIk hsb hlge hlg hAeq hEr
            obtain ⟨sm, hsm⟩ : ∃ sm, sm = mx st.stack A := ⟨_, rfl⟩
            obtain ⟨sp, hsp⟩ : ∃ sp, sp = mx st.steps lg := ⟨_, rfl⟩
            have HSM := Lib.hid hsm
            have HSP := Lib.hid hsp
            clear hsm hsp
            go_upto_if 72 with fail
            go_cut [9] (fun s9 wx => s9 = .int .i64 sm ∧ wr = wx)
            case first =>
              rcases (show st.stack < A ∨ A ≤ st.stack by omega) with h9 | h9
              · have e9 : Hid (A = sm) := by show _ = _; rw [HSM.out]; unfold mx; rw [if_pos h9]
                go_wp2
                go_meet
                exact ⟨by rw [e9.out], rfl⟩
              · have e9 : Hid (st.stack = sm) := by show _ = _; rw [HSM.out]; unfold mx; rw [if_neg (by omega)]
                go_wp2
                go_meet
                exact ⟨by rw [e9.out], rfl⟩
            case rest =>
              obtain ⟨rfl, rfl⟩ := hcut
              go_upto_if 78 with (refine wpList_lookup_own_int (H := Unit) _ rfl _ _ 103 rfl 3 3 .i64 vlaw Try.underlying103 Try.underlying3 (vzero _) B8 n2 D2 rfl hm2.out.1 (.int .i64 k) (kI k) rfl HKK.out ?_; intro c' hat hwc; obtain rfl := (dI_inj (HATL.out.symm.trans hat)).symm)
              go_cut [10] (fun s10 wx => s10 = .int .i64 sp ∧ wr = wx)
              case first =>
                rcases (show st.steps < lg ∨ lg ≤ st.steps by omega) with h9 | h9
                · have e9 : Hid (lg = sp) := by show _ = _; rw [HSP.out]; unfold mx; rw [if_pos h9]
                  go_wp2_with (refine wpList_lookup_own_int (H := Unit) _ rfl _ _ 103 rfl 3 3 .i64 vlaw Try.underlying103 Try.underlying3 (vzero _) B8 n2 D2 rfl hm2.out.1 (.int .i64 k) (kI k) rfl HKK.out ?_; intro c' hat hwc; obtain rfl := (dI_inj (HATL.out.symm.trans hat)).symm)
                  go_meet
                  exact ⟨by rw [e9.out], rfl⟩
                · have e9 : Hid (st.steps = sp) := by show _ = _; rw [HSP.out]; unfold mx; rw [if_neg (by omega)]
                  go_wp2
                  go_meet
                  exact ⟨by rw [e9.out], rfl⟩
              case rest =>
                obtain ⟨rfl, rfl⟩ := hcut
                have hgoes : Hid (Calls Try.prog 81 #[.agg #[.slice (some ⟨b, off, none⟩) p.code.length cc, vp, va], .int .i64 k] wr fun e w' => ∃ v, e = .returned v ∧ w'.ownsRow wr.heap.size 3 1 v (nextI k ⟨op, n⟩).length ((nextI k ⟨op, n⟩).flatMap encI) ∧ Below wr.heap.size wr w') := by
                  have h0 := HN.out k hlt
                  rw [show (⟨op, n⟩ : Ins) = p.code[k] from HXX.out]
                  exact goes_any p _ vp va k wr HCR.out hlt (by omega) h0.2.1 h0.2.2 h0.1
                go_wp2_with (first | (go_at_call 81; refine hgoes.out.mono ?_; rintro e w5 ⟨vt, rfl, hvt, hb5⟩) | fail)
                obtain ⟨at', ct, rfl⟩ := own_shape hvt
                obtain ⟨Bn, hBn⟩ : ∃ B, B = wr.heap.size := ⟨_, rfl⟩
                rw [← hBn] at hvt hB7r hB8r
                have M1 : Hid (MpI w5 B7 n1 D1 ∧ OnM D1 st.dl) := ⟨hm1.out.1.below hb5, hm1.out.2⟩
                have M2 : Hid (MpI w5 B8 n2 D2 ∧ LoM D2 st.ll) := ⟨hm2.out.1.below hb5, hm2.out.2⟩
                have hbr5 := hbr.trans (hb5.mono (by omega))
                have h64 := next_64 k op n (by omega) hn0 hn8
                have hgt5 := nextI_gt (i := k) (x := ⟨op, n⟩) hn0
                have htl : (nextI k ⟨op, n⟩).length ≤ 2 := by unfold nextI; split <;> (try split) <;> (try split) <;> simp
                obtain ⟨stA, hstA⟩ : ∃ stA : Vst, stA = ⟨st.dl, st.ll, sm, sp⟩ := ⟨_, rfl⟩
                have HVG : Hid (vstep p.code.length k ⟨op, n⟩ st = vgo p.code.length A lg stA (nextI k ⟨op, n⟩)) := by
                  show vstep _ _ _ _ = _
                  have hdk : gI st.dl k = c + 1 := HDK.out.symm.trans HC1.out
                  have hne := hneed.out
                  have e1 : ¬ (c < needI op ∨ 8 < A) := by omega
                  unfold vstep
                  dsimp only
                  rw [if_neg HNE.out, hdk, show c + 1 - 1 = c from by omega, show c + moreI op = A from HA.out.symm, if_neg e1, hstA, HSM.out, HSP.out, HLG.out]
                obtain ⟨ts, hts⟩ : ∃ ts, ts = nextI k ⟨op, n⟩ := ⟨_, rfl⟩
                rw [← hts] at hvt hgt5 h64 htl HVG ⊢
                have HVT := Lib.hid hvt
                have H64 := Lib.hid h64
                have HGT := Lib.hid hgt5
                have HSA : Hid (stA.dl = st.dl ∧ stA.ll = st.ll ∧ stA.stack = sm ∧ stA.steps = sp) := by rw [hstA]; exact ⟨rfl, rfl, rfl, rfl⟩
                clear hvt h64 hgt5 hts hstA hb5 hBn hgoes
                clear hm1 hm2
                go_wp2
                obtain ⟨wo, rfl⟩ : ∃ wo : World, wo = wr := ⟨_, rfl⟩
                go_loopw [16] (fun i wr => ∃ (j : Nat) (s2 : Vst) (E1 E2 : DataW Unit) (m1 m2 : Nat), j ≤ ts.length ∧ i = .int .i64 j ∧ Hid (vgo p.code.length A lg stA ts = vgo p.code.length A lg s2 (ts.drop j)) ∧ Hid (s2.dl.length = p.code.length ∧ s2.ll.length = p.code.length ∧ s2.stack = sm ∧ s2.steps = sp ∧ gI s2.ll k = lg) ∧ Hid (MpI wr B7 m1 E1 ∧ OnM E1 s2.dl) ∧ Hid (MpI wr B8 m2 E2 ∧ LoM E2 s2.ll) ∧ m1 ≤ 2 * k + 1 + j ∧ m2 ≤ 2 * k + 1 + j ∧ Hid (wr.ownsRow Bn 3 1 (.slice at' ts.length ct) ts.length (ts.flatMap encI)) ∧ Below B7 w1 wr) (fun i _ => (ts.length - intOf i).toNat)
                case atStart => exact ⟨0, stA, D1, D2, n1, n2, by omega, rfl, Lib.hid rfl, ⟨by rw [HSA.out.1]; exact hDL.out.1, by rw [HSA.out.2.1]; exact hDL.out.2, HSA.out.2.2.1, HSA.out.2.2.2, by rw [HSA.out.2.1]; exact HLG.out.symm⟩, by rw [HSA.out.1]; exact M1, by rw [HSA.out.2.1]; exact M2, by omega, by omega, HVT, hbr5⟩
                case round =>
                  obtain ⟨j, s2, E1, E2, m1, m2, hj, rfl, hvg, hsl, hm1, hm2, hn1', hn2', hvr, hbq⟩ := hrel
                  have hbEq := hw1.trans (hbq.mono (Nat.le_of_lt hz1'))
                  by_cases hjl : j < ts.length
                  · obtain ⟨b5, o5, rfl, hb5b, e0, _⟩ := elemInt (ints_of_own (fun x hx => (H64.out x hx).1) hvr.out) j hjl
                    have hdj0 := List.drop_eq_getElem_cons hjl
                    have ht16 := (H64.out _ (List.getElem_mem hjl)).2
                    have ht64 := (H64.out _ (List.getElem_mem hjl)).1
                    have htg := HGT.out _ (List.getElem_mem hjl)
                    obtain ⟨t, htj⟩ : ∃ t, ts[j] = t := ⟨_, rfl⟩
                    rw [htj] at e0 hdj0 ht16 htg ht64
                    have HTJ := Lib.hid htj
                    have hdj := Lib.hid hdj0
                    clear htj hdj0
                    obtain ⟨u, rfl⟩ : ∃ u : Nat, t = u := ⟨t.toNat, by omega⟩
                    have hunf : Hid (vgo p.code.length A lg s2 (ts.drop j) = if (p.code.length : Int) ≤ u then .inl 5 else if gI s2.dl u ≠ 0 ∧ gI s2.dl u ≠ A + 1 then .inl 4 else vgo p.code.length A lg (vone s2 A lg u) (ts.drop (j + 1))) := by
                      show vgo _ _ _ _ _ = _
                      rw [hdj.out]
                      rfl
                    by_cases hun : (p.code.length : Int) ≤ u
                    · have HE : Hid (verE p = (0, 0, 5)) := herr.out 5 (by rw [HVG.out, hvg.out, hunf.out, if_pos hun])
                      go_wp2
                      go_ret3
                      exact ⟨by rw [HE.out]; rfl, hbEq⟩
                    · have hul : u < p.code.length := by omega
                      have hu2 : (u : Int) < (p.code.length : Int) := by omega
                      have HKU := Lib.hid (key_int (u : Nat) (i64_nat u (by omega)))
                      go_upto_region 40 with (refine wpList_lookup_own_ok_int (H := Unit) _ rfl _ _ 103 rfl 3 3 .i64 vlaw Try.underlying103 Try.underlying3 (vzero _) B7 m1 E1 rfl hm1.out.1 (.int .i64 u) (kI u) rfl HKU.out ?_; intro c' hat hwc; have HAT' := Lib.hid hat; clear hat)
                      rcases on_bad hm1.out.2 u (by rw [hsl.out.1]; exact hul) A _ HAT'.out with ⟨b1, b2, b3, b4⟩ | ⟨b1, b2⟩ | ⟨b1, b2, b3⟩
                      · have HE : Hid (verE p = (0, 0, 4)) := herr.out 4 (by rw [HVG.out, hvg.out, hunf.out, if_neg hun, if_pos ⟨b3, b4⟩])
                        clear b3 b4 hun
                        go_wp2
                        go_ret3
                        exact ⟨by rw [HE.out]; rfl, hbEq⟩
                      all_goals
                        first
                          | (have hok := Lib.hid b3; clear b3)
                          | (have hok := Lib.hid b2; clear b2)
                        have HPA := Lib.hid (pel A (i64_of (by omega) (by omega)))
                        have hgo : Hid (vgo p.code.length A lg stA ts = vgo p.code.length A lg (vone s2 A lg u) (ts.drop (j + 1))) := by
                          show _ = _
                          rw [hvg.out, hunf.out, if_neg hun, if_neg hok.out]
                        have hS1 : Hid ((vone s2 A lg u).dl.length = p.code.length ∧ (vone s2 A lg u).ll.length = p.code.length ∧ (vone s2 A lg u).stack = sm ∧ (vone s2 A lg u).steps = sp ∧ gI (vone s2 A lg u).ll k = lg) :=
                          ⟨by show (s2.dl.set _ _).length = _; rw [List.length_set]; exact hsl.out.1, by show (s2.ll.set _ _).length = _; rw [List.length_set]; exact hsl.out.2.1, hsl.out.2.2.1, hsl.out.2.2.2.1, by
                            have := gI_set s2.ll u (by omega) (by rw [hsl.out.2.1]; exact hu2) (if gI s2.ll u < lg + 1 then lg + 1 else gI s2.ll u) k
                            show gI (s2.ll.set _ _) k = lg
                            rw [this, if_neg (by omega)]
                            exact hsl.out.2.2.2.2⟩
                        have hB78 : B8 ≠ B7 := by omega
                        clear hun hok hunf
                        go_upto_region 43 with (at_mapUpdate; refine wpList_mapUpdate_own (H := Unit) _ rfl _ _ _ 103 rfl 3 3 vlaw Try.underlying103 (plainElem Try.prog 3) B7 m1 E1 rfl hm1.out.1 (by unfold maxLen; omega) (.int .i64 u) (.int .i64 A) (kI u) rfl rfl HKU.out (dI A) [] HPA.out ?_; intro w6 hom1 hgr1)
                        have M1' : Hid (MpI w6 B7 (m1 + 1) (E1.put (kI u) (dI A)) ∧ OnM (E1.put (kI u) (dI A)) (vone s2 A lg u).dl) := ⟨hom1, hm1.out.2.put u A (by omega) (by rw [hsl.out.1]; exact hul)⟩
                        have M2' : Hid (MpI w6 B8 m2 E2 ∧ LoM E2 s2.ll) := ⟨hm2.out.1.other hgr1 hB78, hm2.out.2⟩
                        have HV6 := Lib.hid (own_kept hvr.out hgr1 (by omega))
                        have hB6 : Below B7 w1 w6 := hbq.grown hgr1 (Nat.le_of_lt (World.ownsMap.lt hm1.out.1)) (fun g hg => by cases hg; exact Nat.le_refl _)
                        have e6 := own_at (fun x hx => (H64.out x hx).1) HV6.out j hjl HTJ.out
                        have r1 : ∀ q, (Instr.lookup 103 (.map (some B8)) (.int .i64 k) false).run Try.prog (w6.drewN q) = .ok (.int .i64 lg) (w6.drewN q) := fun q => by
                          have := lo_run (M2'.out.1.block (w' := w6.drewN q) rfl) M2'.out.2 k (by rw [hsl.out.2.1]; exact hlt) (by omega)
                          rw [hsl.out.2.2.2.2] at this
                          exact this
                        obtain ⟨gu, hgu⟩ : ∃ g, g = gI s2.ll u := ⟨_, rfl⟩
                        have r2 : ∀ q, (Instr.lookup 103 (.map (some B8)) (.int .i64 u) false).run Try.prog (w6.drewN q) = .ok (.int .i64 gu) (w6.drewN q) := fun q => by
                          have := lo_run (M2'.out.1.block (w' := w6.drewN q) rfl) M2'.out.2 u (by rw [hsl.out.2.1]; exact hul) (by omega)
                          rw [← hgu] at this
                          exact this
                        have HGU := Lib.hid hgu
                        clear hom1 hgr1 hbq hm1 hm2 hvr hgu
                        have hwl : IntKind.i64.wrap (lg + 1) = lg + 1 := by rw [IntKind.wrap_i64, Int.emod_eq_of_lt (by omega) (by omega)]; omega
                        rcases (show gu < lg + 1 ∨ lg + 1 ≤ gu by omega) with hc | hc
                        · have hll : Hid (LoM (E2.put (kI u) (dI (lg + 1))) (vone s2 A lg u).ll) := by
                            have := M2'.out.2.put u (lg + 1) (by rw [hsl.out.2.1]; exact hul)
                            show LoM _ (s2.ll.set (u : Int).toNat (if gI s2.ll u < lg + 1 then lg + 1 else gI s2.ll u))
                            rw [Int.toNat_natCast, if_pos (by rw [← HGU.out]; exact hc)]
                            exact this
                          have HPL := Lib.hid (pel (lg + 1) (i64_of (by omega) (by omega)))
                          go_quiet (fail)
                          go_wp2
                          have MW1 : Hid (MpI (w6.drewN nq) B7 (m1 + 1) (E1.put (kI u) (dI A)) ∧ OnM (E1.put (kI u) (dI A)) (vone s2 A lg u).dl) := ⟨M1'.out.1.block rfl, M1'.out.2⟩
                          have MW2 : Hid (MpI (w6.drewN nq) B8 m2 E2 ∧ LoM E2 s2.ll) := ⟨M2'.out.1.block rfl, M2'.out.2⟩
                          have HVW := Lib.hid (World.ownsRow.drewN HV6.out nq)
                          have hBW := below_draws hB6 nq
                          have eW := own_at (fun x hx => (H64.out x hx).1) HVW.out j hjl HTJ.out
                          clear r1 r2 e6 M1' M2' HV6 hB6
                          generalize w6.drewN nq = W at *
                          have r1 : ∀ d, (Instr.lookup 103 (.map (some B8)) (.int .i64 k) false).run Try.prog { W with drawn := d } = .ok (.int .i64 lg) { W with drawn := d } := fun d => by
                            have := lo_run (MW2.out.1.block (w' := { W with drawn := d }) rfl) MW2.out.2 k (by rw [hsl.out.2.1]; exact hlt) (by omega)
                            rw [hsl.out.2.2.2.2] at this
                            exact this
                          go_still_tail 9, (by kernel_rfl)
                          refine still_lookup rfl _ _ _ rfl _ (r1 _) ?_
                          repeat still_step
                          refine wpStill_nil ?_
                          change wpList _ _ _ _ _ W.drew
                          go_wp2_with (at_mapUpdate; refine wpList_mapUpdate_own (H := Unit) _ rfl _ _ _ 103 rfl 3 3 vlaw Try.underlying103 (plainElem Try.prog 3) B8 m2 E2 rfl (World.ownsMap.drew MW2.out.1) (by unfold maxLen; omega) (.int .i64 u) (.int .i64 (lg + 1)) (kI u) rfl rfl HKU.out (dI (lg + 1)) [] HPL.out ?_; intro w7 hom2 hgr2)
                          have M7 : Hid (MpI w7 B7 (m1 + 1) (E1.put (kI u) (dI A)) ∧ OnM (E1.put (kI u) (dI A)) (vone s2 A lg u).dl) := ⟨MpI.other (MW1.out.1.block (w' := W.drew) rfl) hgr2 (fun e => hB78 e.symm), MW1.out.2⟩
                          have M8 : Hid (MpI w7 B8 (m2 + 1) (E2.put (kI u) (dI (lg + 1))) ∧ LoM (E2.put (kI u) (dI (lg + 1))) (vone s2 A lg u).ll) := ⟨hom2, hll.out⟩
                          have HV7 := Lib.hid (own_kept (World.ownsRow.drew HVW.out) hgr2 (by omega))
                          have hB7' : Below B7 w1 w7 := (hBW.drew).grown hgr2 (Nat.le_of_lt (World.ownsMap.lt MW1.out.1)) (fun g hg => by cases hg; exact Nat.le_of_lt hB7)
                          clear hom2 hgr2
                          go_roundw
                          case rel => exact ⟨j + 1, _, _, _, m1 + 1, m2 + 1, by omega, by go_num, hgo, hS1, M7, M8, by omega, by omega, HV7, hB7'⟩
                          case measure => simp [intOf]; omega
                        · have hll : Hid (LoM E2 (vone s2 A lg u).ll) := by
                            have := mx_set (l := s2.ll) (u := u) (v := lg + 1) (by rw [← HGU.out]; omega) (by rw [hsl.out.2.1]; exact hul)
                            show LoM E2 (s2.ll.set (u : Int).toNat (if gI s2.ll u < lg + 1 then lg + 1 else gI s2.ll u))
                            rw [Int.toNat_natCast, this]
                            exact M2'.out.2
                          go_quiet (fail)
                          go_wp2
                          go_roundw
                          case rel => exact ⟨j + 1, _, _, _, m1 + 1, m2, by omega, by go_num, hgo, hS1, ⟨M1'.out.1.block rfl, M1'.out.2⟩, ⟨M2'.out.1.block rfl, hll.out⟩, by omega, by omega, World.ownsRow.drewN HV6.out _, below_draws hB6 _⟩
                          case measure => simp [intOf]; omega
                  · have hfin : Hid (scan p.code (k + 1) = .inr s2 ∧ Vinv p.code (k + 1) s2) := hstep.out s2 (by
                      rw [HVG.out, hvg.out, List.drop_eq_nil_of_le (by omega)]
                      rfl)
                    have hs3 := hsl.out.2.2.1
                    have hs4 := hsl.out.2.2.2.1
                    have HS34 := Lib.hid (show sm = s2.stack ∧ sp = s2.steps from ⟨hs3.symm, hs4.symm⟩)
                    clear hs3 hs4
                    go_wp2
                    go_roundw
                    case rel => exact ⟨k + 1, s2, E1, E2, m1, m2, by omega, by go_num, by rw [HS34.out.1], by rw [HS34.out.2], hfin, hm1, hm2, by omega, by omega, hbq⟩
                    case measure => simp [intOf]; omega
    · have hkn : k = p.code.length := by omega
      have hfi := hsc.out
      rw [hkn] at hfi
      have HVE : Hid (verE p = (st.steps, st.stack, 0)) := by
        show _ = _
        unfold verE
        rw [if_neg (by simpa using HG.out), hfi.1, vinv_end hfi.2]
      have hbE := hw1.trans (hbr.mono (Nat.le_of_lt hz1'))
      clear hkn hfi hsc hm1 hm2
      go_wp2
      go_ret3
      exact ⟨by rw [HVE.out]; rfl, hbE⟩
end Go.Proofs.Ytpnmaopompfalaa
