/-
  sundialref.CodeOf, walked.
-/
import Derived.Test.YtlhidbbphngpcaaDoorPrsF
import Derived.Test.YtlhidbbphngpcaaDoorTxtC
namespace Go.Proofs.YtlhidbbphngpcaaDoor
set_option linter.unusedVariables false
set_option linter.unusedSimpArgs false
open Go.ChangeShapes Go.WideShapes Go.ChangeAt Go.RowKit

def RStr (cs : List Value) (x : List UInt8) : Prop := cs = [.string ⟨x.toArray⟩]
theorem StW.sl {w : World} {B : Nat} {v : Value} {l : List (List UInt8)} (h : StW w B v l) : SlAt w 1 RStr v l := slAt_of_own (by decide) (fun _ => rfl) (fun x hx => rfl) h
theorem elemStr {w : World} {aa : Option Addr} {n ca : Nat} {xs : List (List UInt8)} (h : SlAt w 1 RStr (.slice aa n ca) xs) (k : Nat) (hk : k < xs.length) :
    ∃ b off, aa = some ⟨b, off, none⟩ ∧ b < w.heap.size ∧ w.cell? ⟨b, off + k, none⟩ = some (.string ⟨(xs[k]).toArray⟩) := by
  rcases h with ⟨a, cap, hv, rfl⟩ | ⟨b, off, cap, hv, h0, h1, h2, h3, h4⟩
  · simp at hk
  · obtain ⟨cs, hc, rfl, c3⟩ := h4 k hk
    simp only [Value.slice.injEq] at hv
    have := c3 0 (by omega)
    exact ⟨b, off, hv.1, h3, by simpa using this⟩
theorem opName_lit (k : Nat) (NM : List UInt8) (w : World) (h : nmS.getD k [] = NM) (hk : k ≤ 6) :
    Calls Tryd.prog 20 #[.int .i64 k] w fun e w' => e = .returned (.string ⟨NM.toArray⟩) ∧ Below w.heap.size w w' := by
  rw [← h]
  exact opName_any (k : Int) w (by omega) (by omega)
def opTo (k : Nat) (W : List UInt8) : Int := if opOf W < k then opOf W else 0
theorem opTo_one (W : List UInt8) : opTo 1 W = 0 := by
  have := opOf_range W
  unfold opTo
  split <;> omega
theorem opTo_end (W : List UInt8) : opTo 7 W = opOf W := by
  have := opOf_range W
  unfold opTo
  rw [if_pos (by omega)]
theorem opOf_name (W : List UInt8) (k : Nat) (h1 : 1 ≤ k) (h6 : k ≤ 6) : nmS.getD k [] = W ↔ opOf W = k := by
  have hx : k = 1 ∨ k = 2 ∨ k = 3 ∨ k = 4 ∨ k = 5 ∨ k = 6 := by omega
  rcases hx with rfl | rfl | rfl | rfl | rfl | rfl
  all_goals
    constructor
    · rintro rfl; decide
    · intro h
      unfold opOf at h
      repeat' split at h
      all_goals first | (exact absurd h (by decide)) | (rename_i e; rw [e]; rfl) | (rename_i _ e; rw [e]; rfl)
theorem opTo_hit (W : List UInt8) (k : Nat) (h : opOf W = k) : opTo (k + 1) W = k := by unfold opTo; rw [if_pos (by omega), h]
theorem opTo_miss (W : List UInt8) (k : Nat) (h : opOf W ≠ k) : opTo (k + 1) W = opTo k W := by
  unfold opTo
  by_cases h1 : opOf W < k
  · rw [if_pos h1, if_pos (by omega)]
  · rw [if_neg h1, if_neg (by omega)]
theorem spl_len (c : UInt8) : ∀ (l cur : List UInt8), (splB c cur l).length ≤ l.length + 1
  | [], cur => by simp [splB]
  | x :: l, cur => by
    show (if x = c then _ else _ : List (List UInt8)).length ≤ _
    split
    · have := spl_len c l []; simp; omega
    · have := spl_len c l (cur ++ [x]); simp; omega
theorem spl_piece (c : UInt8) : ∀ (l cur : List UInt8), ∀ p ∈ splB c cur l, p.length ≤ cur.length + l.length
  | [], cur, p, h => by
    have : p = cur := by simpa [splB] using h
    subst this; simp
  | x :: l, cur, p, h => by
    have h' : p ∈ (if x = c then cur :: splB c [] l else splB c (cur ++ [x]) l) := h
    split at h'
    · rcases List.mem_cons.1 h' with rfl | h'
      · simp
      · have := spl_piece c l [] p h'; simp at this ⊢; omega
    · have := spl_piece c l (cur ++ [x]) p h'; simp at this ⊢; omega
theorem prsL_one (p : List UInt8) (acc : List Ins) (k : Nat) : prsL [p] acc k = if p = [] then (acc, 0, 0) else ([], (k : Int), 5) := rfl
theorem prsL_two (p q : List UInt8) (r : List (List UInt8)) (acc : List Ins) (k : Nat) : prsL (p :: q :: r) acc k = if 8000 ≤ acc.length then ([], (k : Int), 1) else if (lineS p).1 = 0 then prsL (q :: r) (acc ++ [(lineS p).2]) (k + 1) else ([], (k : Int), (lineS p).1) := rfl
/-- the same as lineS, by its parts. -/
def lineT (op : Int) (m : Nat) (n : List UInt8) : Int × Ins :=
  if op = 0 then (3, ⟨0, 0⟩)
  else if barT op then (if m = 1 then (0, ⟨op, 0⟩) else (4, ⟨0, 0⟩))
  else if m = 2 then (if (dcm (ilB n) 8000).2 = 0 then (0, ⟨op, (dcm (ilB n) 8000).1⟩) else (4, ⟨0, 0⟩))
  else (4, ⟨0, 0⟩)
theorem lineS_T (l : List UInt8) : lineS l = lineT (opOf ((splB 32 [] l).headD [])) (splB 32 [] l).length ((splB 32 [] l).getD 1 []) := rfl
theorem InW.base {w : World} {B C : Nat} {v : Value} {l : List Ins} (h : InW w B v l) (hC : C ≤ B) : InW w C v l := ⟨ownsRow_base hC h.1, h.2⟩
set_option maxRecDepth 100000 in
set_option maxHeartbeats 4000000 in
theorem codeOf_any (L : List UInt8) (w : World) :
    Calls Tryd.prog 9 #[.string ⟨L.toArray⟩] w fun e w' => ∃ v, e = .returned (.tuple #[v, .int .i64 (prsA L).2.1, .int .i64 (prsA L).2.2]) ∧ InW w' w.heap.size v (prsA L).1 ∧ Below w.heap.size w w' := by
  obtain ⟨i0, hi, hz0, hz1, hz2⟩ := info_parts ins_info
  by_cases h0 : 200000 < L.length
  · have hb : 200000 < (L.length : Int) := by omega
    have HE : Hid (prsA L = ([], 0, 1)) := by show _ = _; unfold prsA; rw [if_pos h0]
    clear h0
    go_enter Tryd.func9, Tryd.ntmps9
    go_wp2
    go_ret3
    exact ⟨_, by rw [HE.out]; rfl, by rw [HE.out]; exact InW.nil _ _, Below.refl _ _⟩
  · by_cases hL : L = []
    · subst hL
      have HE : Hid (prsA [] = ([], 0, 0)) := rfl
      go_enter Tryd.func9, Tryd.ntmps9
      go_wp2
      go_ret3
      exact ⟨_, by rw [HE.out]; rfl, by rw [HE.out]; exact InW.nil _ _, Below.refl _ _⟩
    · have hb : (L.length : Int) ≤ 200000 := by omega
      have hne : L.isEmpty = false := by rw [List.isEmpty_eq_false_iff]; exact hL
      obtain ⟨R, hR⟩ : ∃ R, R = prsA L := ⟨_, rfl⟩
      have HE : Hid (prsL (splB 10 [] L) [] 1 = R) := by show _ = _; rw [hR]; unfold prsA; rw [if_neg h0]
      rw [← hR]
      clear h0 hR hL
      go_enter Tryd.func9, Tryd.ntmps9
      go_wp2_with fail
      refine (parted_any ⟨L.toArray⟩ 10 w (by simp [ByteArray.size]; omega)).mono ?_
      rintro e w1 ⟨vp, rfl, hp, hb1⟩
      have hpx : splB 10 [] (ByteArray.mk L.toArray).data.toList = splB 10 [] L := by simp
      rw [hpx] at hp
      obtain ⟨ps, hps⟩ : ∃ ps, ps = splB 10 [] L := ⟨_, rfl⟩
      rw [← hps] at hp HE
      have hps0 : ps ≠ [] := by rw [hps]; exact spl_ne _ _ _
      obtain ⟨ap, cp, rfl⟩ := own_shape hp
      have HPS := Lib.hid hp.sl
      have HB1 := Lib.hid hb1
      have hpl : ps.length ≤ 200001 := by have := spl_len 10 L []; rw [← hps] at this; omega
      have HPP : Hid (∀ p ∈ ps, p.length ≤ 200000) := fun p h => by
        rw [hps] at h
        have := spl_piece 10 L [] p h
        simp at this
        omega
      have hp0 : 0 < ps.length := List.length_pos_iff.2 hps0
      clear hp hps hps0 hpx hb1
      go_wp2
      go_loopw [5, 7] (fun o i wr => ∃ (k : Nat) (acc : List Ins) (a : Option Addr) (cq : Nat), k < ps.length ∧ i = .int .i64 k ∧ o = .slice a acc.length cq ∧ acc.length ≤ 8000 ∧ Hid (prsL (ps.drop k) acc (k + 1) = R) ∧ Hid (InW wr w1.heap.size (.slice a acc.length cq) acc) ∧ Hid (Below w1.heap.size w1 wr)) (fun _ i _ => (ps.length - intOf i).toNat)
      case atStart => exact ⟨0, [], none, 0, hp0, rfl, rfl, by simp, HE, InW.nil _ _, Below.refl _ _⟩
      case round =>
        obtain ⟨k, acc, a, cq, hk, rfl, rfl, hac, HP, HW, HB⟩ := hrel
        have HBw := Lib.hid (HB1.out.trans (HB.out.mono HB1.out.size))
        obtain ⟨b, off, rfl, hbb, c0⟩ := elemStr HPS.out k hk
        have d0 := (HB.out.cell (p := ⟨b, off + k, none⟩) hbb).trans c0
        obtain ⟨P, hP⟩ : ∃ P, P = ps[k] := ⟨_, rfl⟩
        have hPl : P.length ≤ 200000 := by rw [hP]; exact HPP.out _ (List.getElem_mem hk)
        rw [← hP] at d0
        by_cases hlast : k + 1 = ps.length
        · have e1 : ps.drop k = [P] := by rw [List.drop_eq_getElem_cons hk, hP, List.drop_of_length_le (by omega)]
          have h1 : ¬ ((k + 1 : Nat) : Int) < (ps.length : Int) := by omega
          have h1' : ¬ ((k : Int) + 1 < (ps.length : Int)) := by omega
          have hk3 : (ps.length : Int) - 1 = ((k : Nat) : Int) := by omega
          have HX := HP.out
          rw [e1, prsL_one] at HX
          by_cases hP0 : P = []
          · rw [if_pos hP0] at HX
            have HR := Lib.hid HX.symm
            subst hP0
            clear HX e1 hP
            go_wp2
            go_ret3
            exact ⟨_, by rw [HR.out]; rfl, by rw [HR.out]; exact HW.out.base HB1.out.size, HBw.out⟩
          · rw [if_neg hP0] at HX
            have HR : Hid (R = ([], (ps.length : Int), 5)) := by show _ = _; rw [← HX]; congr 2; omega
            have hPe : P.isEmpty = false := by rw [List.isEmpty_eq_false_iff]; exact hP0
            clear HX e1 hP hP0
            go_wp2
            go_ret3
            exact ⟨_, by rw [HR.out]; rfl, by rw [HR.out]; exact InW.nil _ _, HBw.out⟩
        · have hk1 : k + 1 < ps.length := by omega
          have hk1' : (k : Int) + 1 < (ps.length : Int) := by omega
          have e1 : ps.drop k = P :: ps[k + 1] :: ps.drop (k + 1 + 1) := by rw [List.drop_eq_getElem_cons hk, hP, List.drop_eq_getElem_cons hk1]
          have e2 : ps[k + 1] :: ps.drop (k + 1 + 1) = ps.drop (k + 1) := (List.drop_eq_getElem_cons hk1).symm
          have HX := HP.out
          rw [e1, prsL_two, e2, lineS_T] at HX
          have HY := Lib.hid HX
          clear HX e1 e2 hP hlast
          by_cases h8 : 8000 ≤ acc.length
          · have HR : Hid (R = ([], ((k + 1 : Nat) : Int), 1)) := by show _ = _; rw [← HY.out, if_pos h8]
            have h8' : 8000 ≤ (acc.length : Int) := by omega
            clear HY h8
            go_wp2
            go_ret3
            exact ⟨_, by rw [HR.out]; rfl, by rw [HR.out]; exact InW.nil _ _, HBw.out⟩
          · have h8' : (acc.length : Int) < 8000 := by omega
            go_wp2_with fail
            refine (parted_any ⟨P.toArray⟩ 32 wr (by simp [ByteArray.size]; omega)).mono ?_
            rintro e w2 ⟨vq, rfl, hq, hb2⟩
            have hqx : splB 32 [] (ByteArray.mk P.toArray).data.toList = splB 32 [] P := by simp
            rw [hqx] at hq
            obtain ⟨qs, hqs⟩ : ∃ qs, qs = splB 32 [] P := ⟨_, rfl⟩
            rw [← hqs] at hq
            have hq0 : 0 < qs.length := List.length_pos_iff.2 (by rw [hqs]; exact spl_ne _ _ _)
            have hql : qs.length ≤ 200001 := by have := spl_len 32 P []; rw [← hqs] at this; omega
            have hqp : ∀ p ∈ qs, p.length ≤ 200000 := fun p h => by
              rw [hqs] at h
              have := spl_piece 32 P [] p h
              simp at this
              omega
            have HZ := HY.out
            rw [if_neg h8, ← hqs] at HZ
            obtain ⟨Wd, hWd⟩ : ∃ Wd, Wd = qs[0] := ⟨_, rfl⟩
            have hh : qs.headD [] = Wd := by rw [hWd, List.headD_eq_head?_getD, List.head?_eq_getElem?, List.getElem?_eq_getElem hq0]; rfl
            rw [hh] at HZ
            have HY2 := Lib.hid HZ
            have HQP := Lib.hid hqp
            obtain ⟨aq, cq2, rfl⟩ := own_shape hq
            have HQS := Lib.hid hq.sl
            obtain ⟨b2, off2, rfl, hbb2, c2⟩ := elemStr HQS.out 0 hq0
            rw [← hWd] at c2
            have HBB := Lib.hid (HB.out.trans (hb2.mono HB.out.size))
            have HW2 := Lib.hid (HW.out.up hb2)
            have HB2w := Lib.hid (HBw.out.trans (hb2.mono HBw.out.size))
            have hac9 : acc.length < 8000 := by omega
            clear HZ HY hqs hqx hqp hWd hh hq hb2 h8 HBw d0 c0
            go_wp2
            go_loopw [9, 10] (fun o j wq => ∃ jj : Nat, 1 ≤ jj ∧ jj ≤ 7 ∧ j = .int .i64 jj ∧ o = .int .i64 (opTo jj Wd) ∧ Hid (Below w2.heap.size w2 wq)) (fun _ j _ => (7 - intOf j).toNat)
            case atStart => exact ⟨1, by omega, by omega, rfl, by rw [opTo_one], Below.refl _ _⟩
            case round =>
              obtain ⟨jj, hj1, hj7, rfl, rfl, HBq⟩ := hrel
              by_cases hjl : jj ≤ 6
              · have hjl' : (jj : Int) ≤ 6 := by omega
                obtain ⟨NM, hNM⟩ : ∃ NM, nmS.getD jj [] = NM := ⟨_, rfl⟩
                have HCC : Hid (∀ w' : World, Below w2.heap.size w2 w' → w'.cell? ⟨b2, off2, none⟩ = some (.string ⟨Wd.toArray⟩)) := fun w' hb' => (hb'.cell (p := ⟨b2, off2, none⟩) hbb2).trans c2
                have HNM := Lib.hid hNM
                have hbq := HBq.out.drew
                have s0 := HCC.out wr.drew hbq
                have s1 := HCC.out wr HBq.out
                by_cases e : NM = Wd
                · have HT2 : Hid (opTo (jj + 1) Wd = jj) := opTo_hit Wd jj ((opOf_name Wd jj hj1 hjl).1 (hNM.trans e))
                  subst e
                  clear hNM
                  go_wp2_with fail
                  go_region_held3 (fun w' => w'.cell? ⟨b2, off2, none⟩ = some (.string ⟨NM.toArray⟩) ∧ Below w2.heap.size w2 w') (first | (with_reducible exact ⟨s0, hbq⟩) | (with_reducible exact ⟨s9, hB9⟩) | go_keep) ((go_at_call 20; refine (opName_lit jj NM _ HNM.out hjl).mono ?_; rintro e w9 ⟨rfl, hb9⟩; have hB9 : Below w2.heap.size w2 w9 := HBq.out.drew.trans (hb9.mono HBq.out.drew.size); have s9 := HCC.out w9 hB9; clear hb9))
                  have HB9 := Lib.hid hB9
                  clear hB9 s9
                  go_wp2
                  go_roundw
                  case rel => exact ⟨jj + 1, by omega, by omega, by go_num, by rw [HT2.out], HB9⟩
                  case measure => simp [intOf]; omega
                · have HT2 : Hid (opTo (jj + 1) Wd = opTo jj Wd) := opTo_miss Wd jj (fun h => e (hNM.symm.trans ((opOf_name Wd jj hj1 hjl).2 h)))
                  have eb : (NM == Wd) = false := by rw [beq_eq_false_iff_ne]; exact e
                  clear hNM
                  go_wp2_with fail
                  go_region_held3 (fun w' => w'.cell? ⟨b2, off2, none⟩ = some (.string ⟨Wd.toArray⟩) ∧ Below w2.heap.size w2 w') (first | (with_reducible exact ⟨s0, hbq⟩) | (with_reducible exact ⟨s9, hB9⟩) | go_keep) ((go_at_call 20; refine (opName_lit jj NM _ HNM.out hjl).mono ?_; rintro e w9 ⟨rfl, hb9⟩; have hB9 : Below w2.heap.size w2 w9 := HBq.out.drew.trans (hb9.mono HBq.out.drew.size); have s9 := HCC.out w9 hB9; clear hb9))
                  have HB9 := Lib.hid hB9
                  clear hB9 s9
                  go_wp2
                  go_roundw
                  case rel => exact ⟨jj + 1, by omega, by omega, by go_num, by rw [HT2.out], HB9⟩
                  case measure => simp [intOf]; omega
              · obtain rfl : jj = 7 := by omega
                rw [opTo_end]
                obtain ⟨op, hop⟩ : ∃ op, op = opOf Wd := ⟨_, rfl⟩
                have hor := opOf_range Wd
                rw [← hop] at hor ⊢
                obtain ⟨ho1, ho2⟩ := hor
                have HY3 := HY2.out
                rw [← hop] at HY3
                have HY := Lib.hid HY3
                clear HY3 hop
                have HWq := Lib.hid (HW2.out.up HBq.out)
                have HBqw := Lib.hid (HB2w.out.trans (HBq.out.mono HB2w.out.size))
                have HBqb := Lib.hid (HBB.out.trans (HBq.out.mono HBB.out.size))
                by_cases h0 : op = 0
                · have h0' : (op == 0) = true := by rw [beq_iff_eq]; exact h0
                  have HR : Hid (R = ([], ((k + 1 : Nat) : Int), 3)) := by
                    show _ = _
                    rw [← HY.out]
                    unfold lineT
                    rw [if_pos h0, if_neg (by decide)]
                  subst h0
                  go_wp2
                  go_ret3
                  exact ⟨_, by rw [HR.out]; rfl, by rw [HR.out]; exact InW.nil _ _, HBqw.out⟩
                · have h0' : (op == 0) = false := by rw [beq_eq_false_iff_ne]; exact h0
                  have hbx := (Below.refl wr.heap.size wr).alloc (Nat.le_refl _) (.cells #[.int .i64 op, .int .i64 0] 39)
                  have HB4 := Lib.hid (HBqb.out.trans (hbx.mono HBqb.out.size))
                  have HB4w := Lib.hid (HBqw.out.trans (hbx.mono HBqw.out.size))
                  have HW4 := Lib.hid (HWq.out.up hbx)
                  have HZ4 := HBqb.out.size
                  have hgO : Hid (∀ g, (Value.slice a acc.length cq).ownBlock = some g → g ≠ wr.heap.size) := fun g hg => Nat.ne_of_lt (HWq.out.1.lt g hg).2
                  have x0 : (wr.alloc (.cells #[.int .i64 op, .int .i64 0] 39)).cell? ⟨wr.heap.size, 0, none⟩ = some (.int .i64 op) := (World.cell?_alloc_at (w := wr) _ _ wr.heap.size 0 rfl).trans rfl
                  have x1 : (wr.alloc (.cells #[.int .i64 op, .int .i64 0] 39)).cell? ⟨wr.heap.size, 1, none⟩ = some (.int .i64 0) := (World.cell?_alloc_at (w := wr) _ _ wr.heap.size 1 rfl).trans rfl
                  have xf : (wr.alloc (.cells #[.int .i64 op, .int .i64 0] 39)).frozen? ⟨wr.heap.size, 1, none⟩ = false := World.frozen?_alloc_at (w := wr) _ _ wr.heap.size 1 rfl
                  have xz : wr.heap.size < (wr.alloc (.cells #[.int .i64 op, .int .i64 0] 39)).heap.size := by rw [size_alloc]; omega
                  have HQ5 := Lib.hid (HBq.out.trans (hbx.mono HBq.out.size))
                  clear hbx
                  obtain ⟨bar, hbar⟩ : ∃ bar, bar = barT op := ⟨_, rfl⟩
                  have HBAR := Lib.hid hbar.symm
                  cases bar with
                  | true =>
                    by_cases hq1 : qs.length = 1
                    · have hq1' : ((qs.length : Int) != 1) = false := by rw [bne_eq_false_iff_eq]; omega
                      have HNX : Hid (prsL (ps.drop (k + 1)) (acc ++ [⟨op, 0⟩]) (k + 1 + 1) = R) := by
                        have h4 : lineT op qs.length (qs.getD 1 []) = (0, ⟨op, 0⟩) := by unfold lineT; rw [if_neg h0, ← hbar, if_pos rfl, if_pos hq1]
                        have := HY.out
                        rw [h4] at this
                        exact this
                      clear hbar h0
                      go_upto_region 29 with (go_at_call 19; refine (hasT_lit op true _ HBAR.out).mono ?_; rintro e w' ⟨rfl, rfl⟩)
                      have HBx := HB4
                      have HWx := HW4
                      have hwx := HB4.out.size
                      obtain ⟨NN, hNN⟩ : ∃ NN : Int, NN = 0 := ⟨_, rfl⟩
                      generalize wr.alloc (.cells #[.int .i64 op, .int .i64 0] 39) = WX at *
                      rw [← hNN] at HNX x1
                      have hnb : 0 ≤ NN ∧ NN ≤ 8000 := by omega
                      clear hNN
                      go_wp2_with (at_builtin; refine wpList_append_own _ rfl _ _ 22 rfl w1.heap.size 39 i0 (.agg #[.int .i64 0, .int .i64 0]) 2 16 Tryd.underlying22 hi hz0 hz1 hz2 rfl (by decide) _ _ _ rfl (World.ownsRow.alloc HWx.out.1 _) ⟨WX.heap.size, 0, none⟩ 1 1 (encY ⟨op, NN⟩) rfl rfl (cells_at _ _ _ _ _ rfl rfl) (by intro u hu; simp [encY] at hu; rcases hu with rfl | rfl <;> rfl) (by unfold maxLen; omega) (by omega) (by rw [size_alloc]; omega) ?_; intro v' w9 hown' hgrow _; have HB9 := Lib.hid (HBx.out.trans (append_keep HWx.out.1 ((Below.refl w1.heap.size WX).alloc hwx _) hwx hgrow)); have HO := Lib.hid (own_snocG (enc := encY) (x := ⟨op, NN⟩) hown'); clear hown' hgrow; obtain ⟨a', cp', rfl⟩ := own_shape HO.out)
                      go_roundw
                      case rel => exact ⟨k + 1, acc ++ [⟨op, NN⟩], a', cp', by omega, by go_num, by rw [List.length_append]; rfl, by rw [List.length_append, List.length_singleton]; omega, HNX, ⟨by rw [List.length_append] at HO ⊢; exact HO.out, fun y hy => by
                        rcases List.mem_append.1 hy with hy | hy
                        · exact HWx.out.2 y hy
                        · obtain rfl : y = ⟨op, NN⟩ := by simpa using hy
                          exact show I64 op ∧ I64 NN from ⟨i64_of (by omega) (by omega), i64_of (by omega) (by omega)⟩⟩, HB9⟩
                      case measure => simp [intOf]; omega
                    · have hq1' : ((qs.length : Int) != 1) = true := by rw [bne_iff_ne]; omega
                      have HR : Hid (R = ([], ((k + 1 : Nat) : Int), 4)) := by
                        show _ = _
                        rw [← HY.out]
                        unfold lineT
                        rw [if_neg h0, ← hbar, if_pos rfl, if_neg hq1, if_neg (by decide)]
                      clear hbar h0
                      go_wp2_with (go_at_call 19; refine (hasT_lit op true _ HBAR.out).mono ?_; rintro e w' ⟨rfl, rfl⟩)
                      go_ret3
                      exact ⟨_, by rw [HR.out]; rfl, by rw [HR.out]; exact InW.nil _ _, HB4w.out⟩
                  | false =>
                    by_cases hq2 : qs.length = 2
                    · have hq2' : ((qs.length : Int) != 2) = false := by rw [bne_eq_false_iff_eq]; omega
                      have h1q : 1 < qs.length := by omega
                      obtain ⟨b3, off3, e3, hbb3, c3⟩ := elemStr HQS.out 1 h1q
                      obtain ⟨rfl, rfl⟩ : b2 = b3 ∧ off2 = off3 := by simpa using e3
                      obtain ⟨N, hN⟩ : ∃ N, N = qs[1] := ⟨_, rfl⟩
                      have hNl : N.length ≤ 200000 := by rw [hN]; exact HQP.out _ (List.getElem_mem h1q)
                      rw [← hN] at c3
                      have hgd : qs.getD 1 [] = N := by rw [hN, List.getD_eq_getElem?_getD, List.getElem?_eq_getElem h1q]; rfl
                      have n0 := (HQ5.out.cell (p := ⟨b2, off2 + 1, none⟩) hbb3).trans c3
                      have hbl : bl (ByteArray.mk N.toArray) = ilB N := by simp [bl, ilB]
                      have h4 : lineT op qs.length (qs.getD 1 []) = (if (dcm (ilB N) 8000).2 = 0 then (0, ⟨op, (dcm (ilB N) 8000).1⟩) else (4, ⟨0, 0⟩)) := by
                        unfold lineT
                        rw [if_neg h0, ← hbar, if_neg (show ¬ (false = true) by decide), if_pos hq2, hgd]
                      have HY4 := HY.out
                      rw [h4] at HY4
                      have HY5 := Lib.hid HY4
                      clear hbar h0 HY4 h4 hgd hN c3 e3
                      go_wp2_with (go_at_call 19; refine (hasT_lit op false _ HBAR.out).mono ?_; rintro e w' ⟨rfl, rfl⟩)
                      refine (decimal_any ⟨N.toArray⟩ 8000 _ (by simp [ByteArray.size]; unfold maxLen; omega)).mono ?_
                      rintro e w' ⟨rfl, rfl⟩
                      rw [hbl]
                      obtain ⟨D, hD⟩ : ∃ D, D = dcm (ilB N) 8000 := ⟨_, rfl⟩
                      rw [← hD] at HY5 ⊢
                      by_cases hd2 : D.2 = 0
                      · have HNX : Hid (prsL (ps.drop (k + 1)) (acc ++ [⟨op, D.1⟩]) (k + 1 + 1) = R) := by
                          have := HY5.out
                          rw [if_pos hd2] at this
                          exact this
                        have hnb : 0 ≤ D.1 ∧ D.1 ≤ 8000 := by
                          rw [hD] at hd2 ⊢
                          unfold dcm at hd2 ⊢
                          split at hd2
                          · cases hd2
                          · rename_i q1
                            split at hd2
                            · cases hd2
                            · rename_i q2
                              rw [if_neg q1, if_neg q2]
                              have q3 : dcmBad (ilB N) = false := by simpa using q1
                              unfold dcmBad at q3
                              simp only [Bool.or_eq_false_iff, Bool.not_eq_false', decide_eq_true_eq] at q3
                              have q4 := (dval_lt 6 (ilB N) (by omega) fun b hb => (digB_iff _).1 (List.all_eq_true.1 q3.2.1 b hb)).1
                              exact ⟨q4, by omega⟩
                        obtain ⟨NN, hNN⟩ : ∃ NN, NN = D.1 := ⟨_, rfl⟩
                        rw [← hNN] at HNX hnb ⊢
                        clear hD hNN HY5
                        rw [hd2]
                        clear hd2
                        go_upto_region 29 with fail
                        have hbn := (Below.refl wr.heap.size wr).alloc (Nat.le_refl _) (.cells #[.int .i64 op, .int .i64 NN] 39)
                        have HBx := Lib.hid (HBqb.out.trans (hbn.mono HBqb.out.size))
                        have HWx := Lib.hid (HWq.out.up hbn)
                        have hwx := HBx.out.size
                        have z0 : (wr.alloc (.cells #[.int .i64 op, .int .i64 NN] 39)).cell? ⟨wr.heap.size, 0, none⟩ = some (.int .i64 op) := (World.cell?_alloc_at (w := wr) _ _ wr.heap.size 0 rfl).trans rfl
                        have z1 : (wr.alloc (.cells #[.int .i64 op, .int .i64 NN] 39)).cell? ⟨wr.heap.size, 1, none⟩ = some (.int .i64 NN) := (World.cell?_alloc_at (w := wr) _ _ wr.heap.size 1 rfl).trans rfl
                        clear x0 x1 xf n0 hbn
                        generalize wr.alloc (.cells #[.int .i64 op, .int .i64 NN] 39) = WX at *
                        go_wp2_with (at_builtin; refine wpList_append_own _ rfl _ _ 22 rfl w1.heap.size 39 i0 (.agg #[.int .i64 0, .int .i64 0]) 2 16 Tryd.underlying22 hi hz0 hz1 hz2 rfl (by decide) _ _ _ rfl (World.ownsRow.alloc HWx.out.1 _) ⟨WX.heap.size, 0, none⟩ 1 1 (encY ⟨op, NN⟩) rfl rfl (cells_at _ _ _ _ _ rfl rfl) (by intro u hu; simp [encY] at hu; rcases hu with rfl | rfl <;> rfl) (by unfold maxLen; omega) (by omega) (by rw [size_alloc]; omega) ?_; intro v' w9 hown' hgrow _; have HB9 := Lib.hid (HBx.out.trans (append_keep HWx.out.1 ((Below.refl w1.heap.size WX).alloc hwx _) hwx hgrow)); have HO := Lib.hid (own_snocG (enc := encY) (x := ⟨op, NN⟩) hown'); clear hown' hgrow; obtain ⟨a', cp', rfl⟩ := own_shape HO.out)
                        go_roundw
                        case rel => exact ⟨k + 1, acc ++ [⟨op, NN⟩], a', cp', by omega, by go_num, by rw [List.length_append]; rfl, by rw [List.length_append, List.length_singleton]; omega, HNX, ⟨by rw [List.length_append] at HO ⊢; exact HO.out, fun y hy => by
                          rcases List.mem_append.1 hy with hy | hy
                          · exact HWx.out.2 y hy
                          · obtain rfl : y = ⟨op, NN⟩ := by simpa using hy
                            exact show I64 op ∧ I64 NN from ⟨i64_of (by omega) (by omega), i64_of (by omega) (by omega)⟩⟩, HB9⟩
                        case measure => simp [intOf]; omega
                      · have hd2' : (D.2 != 0) = true := by rw [bne_iff_ne]; exact hd2
                        have HR : Hid (R = ([], ((k + 1 : Nat) : Int), 4)) := by
                          show _ = _
                          rw [← HY5.out, if_neg hd2, if_neg (by decide)]
                        clear hd2 hD HY5
                        go_wp2
                        go_ret3
                        exact ⟨_, by rw [HR.out]; rfl, by rw [HR.out]; exact InW.nil _ _, HB4w.out⟩
                    · have hq2' : ((qs.length : Int) != 2) = true := by rw [bne_iff_ne]; omega
                      have HR : Hid (R = ([], ((k + 1 : Nat) : Int), 4)) := by
                        show _ = _
                        rw [← HY.out]
                        unfold lineT
                        rw [if_neg h0, ← hbar, if_neg (show ¬ (false = true) by decide), if_neg hq2, if_neg (by decide)]
                      clear hbar h0
                      go_wp2_with (go_at_call 19; refine (hasT_lit op false _ HBAR.out).mono ?_; rintro e w' ⟨rfl, rfl⟩)
                      go_ret3
                      exact ⟨_, by rw [HR.out]; rfl, by rw [HR.out]; exact InW.nil _ _, HB4w.out⟩
end Go.Proofs.YtlhidbbphngpcaaDoor
