/-
  code.Parse, walked.
-/
import Derived.Test.YtlhidbbphngpcaaDoorPrsE
namespace Go.Proofs.YtlhidbbphngpcaaDoor
set_option linter.unusedVariables false
set_option linter.unusedSimpArgs false
open Go.ChangeShapes Go.WideShapes Go.ChangeAt Go.RowKit

def encY (x : Ins) : List Value := [.int .i64 x.op, .int .i64 x.n]
theorem ins_info : (Tryd.prog.info? 39).map (fun i => (i.zero, i.size, i.bytes)) = some (some (.agg #[.int .i64 0, .int .i64 0]), 2, 16) := by kernel_rfl
/-- a row of instructions of the call's own. -/
def InW (w : World) (B : Nat) (v : Value) (l : List Ins) : Prop := w.ownsRow B 39 2 v l.length (l.flatMap encY) ∧ ∀ x ∈ l, I64 x.op ∧ I64 x.n
theorem InW.sl {w : World} {B : Nat} {v : Value} {l : List Ins} (h : InW w B v l) : SlAt w 2 RIns v l :=
  slAt_of_own (by decide) (fun _ => rfl) (fun x hx => ⟨rfl, (h.2 x hx).1, (h.2 x hx).2⟩) h.1
theorem InW.nil (w : World) (B : Nat) : InW w B (.slice none 0 0) [] := ⟨World.ownsRow_nil _ _ _ _, fun _ h => by cases h⟩
theorem InW.up {w w' : World} {B : Nat} {v : Value} {l : List Ins} (h : InW w B v l) (hb : Below w.heap.size w w') : InW w' B v l := ⟨ownsRow_below h.1 hb (Nat.le_refl _), h.2⟩
theorem InW.set {w : World} {B : Nat} {v : Value} {l : List Ins} (h : InW w B v l) (O j : Nat) (u : Value) (hne : ∀ g, v.ownBlock = some g → g ≠ O) : InW (w.setCell ⟨O, j, none⟩ u) B v l := by
  refine ⟨World.ownsRow.kept (row := some O) h.1 ⟨rfl, rfl, rfl, by rw [World.size_setCell]; exact Nat.le_refl _, fun k _ hk => RowKit.Below.heap_setCell _ _ _ _ (fun e => hk (by rw [e]))⟩ ?_, h.2⟩
  rcases hv : v.ownBlock with _ | g
  · exact .inl rfl
  · exact .inr fun e => hne g hv (Option.some.inj e)
theorem prsL_nil (acc : List Ins) (k : Nat) : prsL (splB 10 [] []) acc k = (acc, 0, 0) := rfl
theorem prsL_short {S : List UInt8} {acc : List Ins} {k : Nat} (h : (cutB 10 S).2.2 = false) (hS : S ≠ []) : prsL (splB 10 [] S) acc k = ([], (k : Int), 5) := by
  rw [spl_cut, h, cutB_none 10 S h]
  show (if [] ++ S = [] then _ else _) = _
  rw [if_neg (by simpa using hS)]
theorem prsL_step {S : List UInt8} {acc : List Ins} {k : Nat} (h : (cutB 10 S).2.2 = true) :
    prsL (splB 10 [] S) acc k = if 8000 ≤ acc.length then ([], (k : Int), 1) else if (lineC (cutB 10 S).1).1 = 0 then prsL (splB 10 [] (cutB 10 S).2.1) (acc ++ [(lineC (cutB 10 S).1).2]) (k + 1) else ([], (k : Int), (lineC (cutB 10 S).1).1) := by
  rw [spl_cut, h, ← line_eq]
  rcases hq : splB 10 [] (cutB 10 S).2.1 with _ | ⟨q, r⟩
  · exact absurd hq (spl_ne 10 [] _)
  · rfl
def lineD (op : Int) (has : Bool) (N : List UInt8) : Int × Ins :=
  if op = 0 then (3, ⟨0, 0⟩) else if has = barT op then (4, ⟨0, 0⟩) else if has then (match numC N with | some k => (0, ⟨op, k⟩) | none => (4, ⟨0, 0⟩)) else (0, ⟨op, 0⟩)
theorem lineC_D (P : List UInt8) : lineC P = lineD (opOf (cutB 32 P).1) (cutB 32 P).2.2 (cutB 32 P).2.1 := rfl
theorem numC_some {N : List UInt8} {k : Int} (h : Lib.atoiAll N = .ok k) (h1 : Lib.itoa k = N) (h2 : 0 ≤ k) (h3 : k ≤ 8000) : numC N = some k := by
  unfold numC
  rw [h]
  exact if_pos ⟨h1, h2, h3⟩
theorem numC_none {N : List UInt8} {k : Int} (h : Lib.atoiAll N = .ok k) (h1 : ¬ (Lib.itoa k = N ∧ 0 ≤ k ∧ k ≤ 8000)) : numC N = none := by
  unfold numC
  rw [h]
  exact if_neg h1
def szOf : Value → Nat
  | .string s => s.size
  | _ => 0
set_option maxRecDepth 100000 in
set_option maxHeartbeats 4000000 in
theorem parse_any (L : List UInt8) (w : World) (h : PrV w) :
    Calls Tryd.prog 8 #[.string ⟨L.toArray⟩] w fun e w' => ∃ v, e = .returned (.tuple #[v, .int .i64 (prsA L).2.1, .int .i64 (prsA L).2.2]) ∧ InW w' w.heap.size v (prsA L).1 ∧ Below w.heap.size w w' := by
  obtain ⟨i0, hi, hz0, hz1, hz2⟩ := info_parts ins_info
  have HV := Lib.hid h
  clear h
  by_cases h0 : 200000 < L.length
  · have hb : 200000 < (L.length : Int) := by omega
    have HE : Hid (prsA L = ([], 0, 1)) := by show _ = _; unfold prsA; rw [if_pos h0]
    clear h0
    go_enter Tryd.func8, Tryd.ntmps8
    go_wp2
    go_ret3
    exact ⟨_, by rw [HE.out]; rfl, by rw [HE.out]; exact InW.nil _ _, Below.refl _ _⟩
  · have hb : (L.length : Int) ≤ 200000 := by omega
    obtain ⟨R, hR⟩ : ∃ R, R = prsA L := ⟨_, rfl⟩
    have HE : Hid (prsL (splB 10 [] L) [] 1 = R) := by show _ = _; rw [hR]; unfold prsA; rw [if_neg h0]
    rw [← hR]
    clear h0 hR
    go_enter Tryd.func8, Tryd.ntmps8
    go_wp2
    go_loopw [0, 5, 6] (fun sv o ln wr => ∃ (S : List UInt8) (acc : List Ins) (k : Nat) (a : Option Addr) (cp : Nat), sv = .string ⟨S.toArray⟩ ∧ ln = .int .i64 k ∧ o = .slice a acc.length cp ∧ S.length + k ≤ L.length + 1 ∧ acc.length ≤ 8000 ∧ Hid (prsL (splB 10 [] S) acc k = R) ∧ Hid (InW wr w.heap.size (.slice a acc.length cp) acc) ∧ Hid (Below w.heap.size w wr)) (fun sv _ _ _ => szOf sv)
    case atStart => exact ⟨L, [], 1, none, 0, rfl, rfl, rfl, by omega, by simp, HE, InW.nil _ _, Below.refl _ _⟩
    case round =>
      obtain ⟨S, acc, k, a, cp, rfl, rfl, rfl, hSk, hac, HP, HW, HB⟩ := hrel
      by_cases hS : S = []
      · subst hS
        have HX : Hid (R = (acc, 0, 0)) := HP.out.symm.trans (prsL_nil acc k)
        go_wp2
        go_ret3
        exact ⟨_, by rw [HX.out]; rfl, by rw [HX.out]; exact HW.out, HB.out⟩
      · obtain ⟨P, hP⟩ : ∃ P, P = (cutB 10 S).1 := ⟨_, rfl⟩
        obtain ⟨Q, hQ⟩ : ∃ Q, Q = (cutB 10 S).2.1 := ⟨_, rfl⟩
        obtain ⟨fd, hfd⟩ : ∃ fd, fd = (cutB 10 S).2.2 := ⟨_, rfl⟩
        have hlen := cutB_len 10 S
        rw [← hP, ← hQ, ← hfd] at hlen
        have HVr := Lib.hid (HV.out.below HB.out)
        have hne : S.isEmpty = false := by rw [List.isEmpty_eq_false_iff]; exact hS
        have HS := Lib.hid hS
        clear hS
        go_wp2_with fail
        refine (cutPr S 10 wr HVr.out (by omega)).mono ?_
        rintro e w2 ⟨rfl, hb2⟩
        rw [← hP, ← hQ, ← hfd]
        have HB2 := Lib.hid (HB.out.trans (hb2.mono HB.out.size))
        have HW2 := Lib.hid (HW.out.up hb2)
        have HV2 := Lib.hid (HVr.out.below hb2)
        clear hb2
        cases fd with
        | false =>
          have HX : Hid (R = ([], (k : Int), 5)) := HP.out.symm.trans (prsL_short hfd.symm HS.out)
          clear hP hQ hfd hlen
          go_wp2
          go_ret3
          exact ⟨_, by rw [HX.out]; rfl, by rw [HX.out]; exact InW.nil _ _, HB2.out⟩
        | true =>
          have HST := prsL_step (acc := acc) (k := k) hfd.symm
          rw [← hP, ← hQ, HP.out] at HST
          have HX := Lib.hid HST
          simp only [if_true] at hlen
          clear hP hQ hfd HST
          by_cases h8 : acc.length = 8000
          · have h8' : ((acc.length : Int) == 8000) = true := by rw [beq_iff_eq]; omega
            have HY : Hid (R = ([], (k : Int), 1)) := by show _ = _; rw [HX.out, if_pos (by omega)]
            clear hlen
            go_wp2
            go_ret3
            exact ⟨_, by rw [HY.out]; rfl, by rw [HY.out]; exact InW.nil _ _, HB2.out⟩
          · have h8' : ((acc.length : Int) == 8000) = false := by rw [beq_eq_false_iff_ne]; omega
            have HY : Hid (R = if (lineC P).1 = 0 then prsL (splB 10 [] Q) (acc ++ [(lineC P).2]) (k + 1) else ([], (k : Int), (lineC P).1)) := by show _ = _; rw [HX.out, if_neg (by omega)]
            have hac' : acc.length < 8000 := by omega
            clear HX h8
            obtain ⟨Wd, hWd⟩ : ∃ Wd, Wd = (cutB 32 P).1 := ⟨_, rfl⟩
            obtain ⟨N, hN⟩ : ∃ N, N = (cutB 32 P).2.1 := ⟨_, rfl⟩
            obtain ⟨has, hhas⟩ : ∃ has, has = (cutB 32 P).2.2 := ⟨_, rfl⟩
            obtain ⟨op, hop⟩ : ∃ op, op = opOf Wd := ⟨_, rfl⟩
            have hlen2 := cutB_len 32 P
            rw [← hN] at hlen2
            have hNl : N.length ≤ 200000 := by omega
            have HLC : Hid (lineC P = lineD op has N) := by
              show _ = _
              rw [lineC_D, ← hWd, ← hN, ← hhas, ← hop]
            have hor := opOf_range Wd
            rw [← hop] at hor
            obtain ⟨ho1, ho2⟩ := hor
            have hPl : P.length < 4294967281 := by omega
            clear hlen2
            go_wp2_with fail
            refine (cutPr P 32 w2 HV2.out hPl).mono ?_
            rintro e w3 ⟨rfl, hb3⟩
            rw [← hWd, ← hN, ← hhas]
            have HB3 := Lib.hid (HB2.out.trans (hb3.mono HB2.out.size))
            have HW3 := Lib.hid (HW2.out.up hb3)
            have HV3 := Lib.hid (HV2.out.below hb3)
            clear hb3 hWd hN hhas hPl
            go_wp2_with fail
            refine (idxP Wd w3 HV3.out).mono ?_
            rintro e w4 ⟨rfl, rfl⟩
            rw [← hop]
            rw [HLC.out] at HY
            clear hop HLC
            have hbx := (Below.refl w4.heap.size w4).alloc (Nat.le_refl _) (.cells #[.int .i64 op, .int .i64 0] 39)
            have HB4 := Lib.hid (HB3.out.trans (hbx.mono HB3.out.size))
            have HW4 := Lib.hid (HW3.out.up hbx)
            have HV4 := Lib.hid (HV3.out.below hbx)
            have HZ4 := HB3.out.size
            clear hbx
            by_cases h0 : op = 0
            · have h0' : (op == 0) = true := by rw [beq_iff_eq]; exact h0
              have HZ : Hid (R = ([], (k : Int), 3)) := by show _ = _; rw [HY.out]; unfold lineD; rw [if_pos h0, if_neg (by decide)]
              subst h0
              go_wp2
              go_ret3
              exact ⟨_, by rw [HZ.out]; rfl, by rw [HZ.out]; exact InW.nil _ _, HB4.out⟩
            · have h0' : (op == 0) = false := by rw [beq_eq_false_iff_ne]; exact h0
              obtain ⟨bar, hbar⟩ : ∃ bar, bar = barT op := ⟨_, rfl⟩
              have HBAR := Lib.hid hbar.symm
              have HQ : Hid (lineD op has N = if has = bar then (4, ⟨0, 0⟩) else if has then (match numC N with | some k => ((0 : Int), Ins.mk op k) | none => (4, ⟨0, 0⟩)) else (0, ⟨op, 0⟩)) := by
                show _ = _
                unfold lineD
                rw [if_neg h0, ← hbar]
              clear hbar h0
              go_wp2_with fail
              refine (bareT_lit op bar _ HBAR.out).mono ?_
              rintro e w5 ⟨rfl, rfl⟩
              have x0 : (w4.alloc (.cells #[.int .i64 op, .int .i64 0] 39)).cell? ⟨w4.heap.size, 0, none⟩ = some (.int .i64 op) := (World.cell?_alloc_at (w := w4) _ _ w4.heap.size 0 rfl).trans rfl
              have x1 : (w4.alloc (.cells #[.int .i64 op, .int .i64 0] 39)).cell? ⟨w4.heap.size, 1, none⟩ = some (.int .i64 0) := (World.cell?_alloc_at (w := w4) _ _ w4.heap.size 1 rfl).trans rfl
              have xz : w4.heap.size < (w4.alloc (.cells #[.int .i64 op, .int .i64 0] 39)).heap.size := by rw [size_alloc]; omega
              have xf : (w4.alloc (.cells #[.int .i64 op, .int .i64 0] 39)).frozen? ⟨w4.heap.size, 1, none⟩ = false := World.frozen?_alloc_at (w := w4) _ _ w4.heap.size 1 rfl
              have hgO : Hid (∀ g, (Value.slice a acc.length cp).ownBlock = some g → g ≠ w4.heap.size) := fun g hg => Nat.ne_of_lt (HW3.out.1.lt g hg).2
              generalize w4.alloc (.cells #[.int .i64 op, .int .i64 0] 39) = w5 at *
              generalize w4.heap.size = O at *
              cases has <;> cases bar
              · have HZ : Hid (R = ([], (k : Int), 4)) := by show _ = _; rw [HY.out, HQ.out]; rfl
                go_wp2
                go_ret3
                exact ⟨_, by rw [HZ.out]; rfl, by rw [HZ.out]; exact InW.nil _ _, HB4.out⟩
              · have HNX : Hid (prsL (splB 10 [] Q) (acc ++ [⟨op, 0⟩]) (k + 1) = R) := by show _ = _; rw [HY.out, HQ.out]; rfl
                have HBx := HB4
                have HWx := HW4
                have hwx := HB4.out.size
                obtain ⟨NN, hNN⟩ : ∃ NN : Int, NN = 0 := ⟨_, rfl⟩
                obtain ⟨WX, hWX⟩ : ∃ WX, WX = w5 := ⟨_, rfl⟩
                rw [← hNN] at HNX x1
                rw [← hWX] at HBx HWx hwx
                subst hWX
                have hnb : 0 ≤ NN ∧ NN ≤ 8000 := by omega
                clear hNN
                go_wp2_with (at_builtin; refine wpList_append_own _ rfl _ _ 22 rfl w.heap.size 39 i0 (.agg #[.int .i64 0, .int .i64 0]) 2 16 Tryd.underlying22 hi hz0 hz1 hz2 rfl (by decide) _ _ _ rfl (World.ownsRow.alloc HWx.out.1 _) ⟨WX.heap.size, 0, none⟩ 1 1 (encY ⟨op, NN⟩) rfl rfl (cells_at _ _ _ _ _ rfl rfl) (by intro u hu; simp [encY] at hu; rcases hu with rfl | rfl <;> rfl) (by unfold maxLen; omega) (by omega) (by rw [size_alloc]; omega) ?_; intro v' w9 hown' hgrow _; have HB9 := Lib.hid (HBx.out.trans (append_keep HWx.out.1 ((Below.refl w.heap.size WX).alloc hwx _) hwx hgrow)); have HO := Lib.hid (own_snocG (enc := encY) (x := ⟨op, NN⟩) hown'); clear hown' hgrow; obtain ⟨a', cp', rfl⟩ := own_shape HO.out)
                go_roundw
                case rel => exact ⟨Q, acc ++ [⟨op, NN⟩], k + 1, a', cp', rfl, by go_num, by rw [List.length_append]; rfl, by omega, by rw [List.length_append, List.length_singleton]; omega, HNX, ⟨by rw [List.length_append] at HO ⊢; exact HO.out, fun y hy => by
                  rcases List.mem_append.1 hy with hy | hy
                  · exact HWx.out.2 y hy
                  · obtain rfl : y = ⟨op, NN⟩ := by simpa using hy
                    exact show I64 op ∧ I64 NN from ⟨i64_of (by omega) (by omega), i64_of (by omega) (by omega)⟩⟩, HB9⟩
                case measure => simp [szOf, ByteArray.size]; omega
              · go_wp2_with fail
                refine (atoiP N w5 HV4.out (by omega)).mono ?_
                rintro e w6 ⟨⟨kk, ev, rfl, hev⟩, hb6⟩
                have HB6 := Lib.hid (HB4.out.trans (hb6.mono HB4.out.size))
                have HW6 := Lib.hid (HW4.out.up hb6)
                have HV6 := Lib.hid (HV4.out.below hb6)
                have HQ2 : Hid (lineD op true N = match numC N with | some k => ((0 : Int), Ins.mk op k) | none => (4, ⟨0, 0⟩)) := HQ
                rcases hev with ⟨rfl, hat, hk1, hk2⟩ | ⟨⟨tt, pp, rfl⟩, hnone⟩
                · obtain ⟨IT, hIT⟩ : ∃ IT, IT = Lib.itoa kk := ⟨_, rfl⟩
                  have HAT := Lib.hid hat
                  clear hat
                  go_wp2_with fail
                  refine (itoaP kk w6 HV6.out hk1 hk2).mono ?_
                  rintro e w7 ⟨rfl, hb7⟩
                  rw [← hIT]
                  have HB7 := Lib.hid (HB6.out.trans (hb7.mono HB6.out.size))
                  have HW7 := Lib.hid (HW6.out.up hb7)
                  have y0 : w7.cell? ⟨O, 0, none⟩ = some (.int .i64 op) := (hb7.cell (p := ⟨O, 0, none⟩) (Nat.lt_of_lt_of_le xz hb6.size)).trans ((hb6.cell (p := ⟨O, 0, none⟩) xz).trans x0)
                  have y1 : w7.cell? ⟨O, 1, none⟩ = some (.int .i64 0) := (hb7.cell (p := ⟨O, 1, none⟩) (Nat.lt_of_lt_of_le xz hb6.size)).trans ((hb6.cell (p := ⟨O, 1, none⟩) xz).trans x1)
                  have yf : w7.frozen? ⟨O, 1, none⟩ = false := (hb7.frozen (p := ⟨O, 1, none⟩) (Nat.lt_of_lt_of_le xz hb6.size)).trans ((hb6.frozen (p := ⟨O, 1, none⟩) xz).trans xf)
                  clear hb6 hb7
                  by_cases e1 : IT = N
                  · by_cases e2 : kk < 0
                    · have HZ : Hid (R = ([], (k : Int), 4)) := by
                        show _ = _
                        have h4 : lineD op true N = (4, ⟨0, 0⟩) := by rw [HQ2.out, numC_none HAT.out (by rw [← hIT]; omega)]
                        rw [HY.out, h4]
                        rfl
                      clear hIT
                      go_wp2
                      go_ret3
                      exact ⟨_, by rw [HZ.out]; rfl, by rw [HZ.out]; exact InW.nil _ _, HB7.out⟩
                    · by_cases e3 : 8000 < kk
                      · have HZ : Hid (R = ([], (k : Int), 4)) := by
                          show _ = _
                          have h4 : lineD op true N = (4, ⟨0, 0⟩) := by rw [HQ2.out, numC_none HAT.out (by rw [← hIT]; omega)]
                          rw [HY.out, h4]
                          rfl
                        clear hIT
                        go_wp2
                        go_ret3
                        exact ⟨_, by rw [HZ.out]; rfl, by rw [HZ.out]; exact InW.nil _ _, HB7.out⟩
                      · have HNX : Hid (prsL (splB 10 [] Q) (acc ++ [⟨op, kk⟩]) (k + 1) = R) := by
                          show _ = _
                          have h4 : lineD op true N = (0, ⟨op, kk⟩) := by rw [HQ2.out, numC_some HAT.out (hIT.symm.trans e1) (by omega) (by omega)]
                          rw [HY.out, h4]
                          rfl
                        clear hIT
                        go_upto_region 24 with fail
                        have z0 : (w7.setCell ⟨O, 1, none⟩ (.int .i64 kk)).cell? ⟨O, 0, none⟩ = some (.int .i64 op) := by
                          rw [World.cell?_setCell_other (h := by simp)]; exact y0
                        have z1 : (w7.setCell ⟨O, 1, none⟩ (.int .i64 kk)).cell? ⟨O, 1, none⟩ = some (.int .i64 kk) := World.cell?_setCell_same (h := y1) ..
                        have HBx := Lib.hid (HB7.out.setCell (p := ⟨O, 1, none⟩) HZ4 (.int .i64 kk))
                        have HWx := Lib.hid (HW7.out.set O 1 (.int .i64 kk) hgO.out)
                        have hwx := HBx.out.size
                        clear y0 y1 yf
                        generalize w7.setCell ⟨O, 1, none⟩ (.int .i64 kk) = WX at *
                        have hnb : 0 ≤ kk ∧ kk ≤ 8000 := by omega
                        obtain ⟨NN, rfl⟩ : ∃ NN, NN = kk := ⟨_, rfl⟩
                        go_wp2_with (at_builtin; refine wpList_append_own _ rfl _ _ 22 rfl w.heap.size 39 i0 (.agg #[.int .i64 0, .int .i64 0]) 2 16 Tryd.underlying22 hi hz0 hz1 hz2 rfl (by decide) _ _ _ rfl (World.ownsRow.alloc HWx.out.1 _) ⟨WX.heap.size, 0, none⟩ 1 1 (encY ⟨op, NN⟩) rfl rfl (cells_at _ _ _ _ _ rfl rfl) (by intro u hu; simp [encY] at hu; rcases hu with rfl | rfl <;> rfl) (by unfold maxLen; omega) (by omega) (by rw [size_alloc]; omega) ?_; intro v' w9 hown' hgrow _; have HB9 := Lib.hid (HBx.out.trans (append_keep HWx.out.1 ((Below.refl w.heap.size WX).alloc hwx _) hwx hgrow)); have HO := Lib.hid (own_snocG (enc := encY) (x := ⟨op, NN⟩) hown'); clear hown' hgrow; obtain ⟨a', cp', rfl⟩ := own_shape HO.out)
                        go_roundw
                        case rel => exact ⟨Q, acc ++ [⟨op, NN⟩], k + 1, a', cp', rfl, by go_num, by rw [List.length_append]; rfl, by omega, by rw [List.length_append, List.length_singleton]; omega, HNX, ⟨by rw [List.length_append] at HO ⊢; exact HO.out, fun y hy => by
                          rcases List.mem_append.1 hy with hy | hy
                          · exact HWx.out.2 y hy
                          · obtain rfl : y = ⟨op, NN⟩ := by simpa using hy
                            exact show I64 op ∧ I64 NN from ⟨i64_of (by omega) (by omega), i64_of (by omega) (by omega)⟩⟩, HB9⟩
                        case measure => simp [szOf, ByteArray.size]; omega
                  · have HZ : Hid (R = ([], (k : Int), 4)) := by
                      show _ = _
                      have h4 : lineD op true N = (4, ⟨0, 0⟩) := by rw [HQ2.out, numC_none HAT.out (by rw [← hIT]; exact fun h => e1 h.1)]
                      rw [HY.out, h4]
                      rfl
                    clear hIT
                    go_wp2
                    go_ret3
                    exact ⟨_, by rw [HZ.out]; rfl, by rw [HZ.out]; exact InW.nil _ _, HB7.out⟩
                · have HZ : Hid (R = ([], (k : Int), 4)) := by
                    show _ = _
                    have h4 : lineD op true N = (4, ⟨0, 0⟩) := by rw [HQ2.out, hnone]
                    rw [HY.out, h4]
                    rfl
                  go_wp2
                  go_ret3
                  exact ⟨_, by rw [HZ.out]; rfl, by rw [HZ.out]; exact InW.nil _ _, HB6.out⟩
              · have HZ : Hid (R = ([], (k : Int), 4)) := by show _ = _; rw [HY.out, HQ.out]; rfl
                go_wp2
                go_ret3
                exact ⟨_, by rw [HZ.out]; rfl, by rw [HZ.out]; exact InW.nil _ _, HB4.out⟩
end Go.Proofs.YtlhidbbphngpcaaDoor
