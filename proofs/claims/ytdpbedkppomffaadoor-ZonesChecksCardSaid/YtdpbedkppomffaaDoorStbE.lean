/-
  slices.insertionSortCmpFunc over turns.
-/
import Derived.Test.YtdpbedkppomffaaDoorStbD
import Derived.Deep.RegionHeld3
import Derived.OrdersHeld
namespace Go.Proofs.YtdpbedkppomffaaDoor
set_option linter.unusedVariables false
set_option linter.unusedSimpArgs false
open Go.ChangeShapes Go.WideShapes Go.ChangeAt Go.RowKit

/-- what a turn tells lies within bounds. -/
def NoB (l : List Trn) : Prop := ∀ x ∈ l, -2250000000 ≤ x.no ∧ x.no ≤ 4150000000
def LessB (w w' : World) (d : Int) (e : Ending) : Prop := e = .returned (.int .i64 d) ∧ Below w.heap.size w w'
set_option maxHeartbeats 1000000 in
theorem less_any (a b : Trn) (w : World) (ha : -2250000000 ≤ a.no ∧ a.no ≤ 4150000000) (hb : -2250000000 ≤ b.no ∧ b.no ≤ 4150000000) :
    Calls Tryd.prog 78 #[.agg #[.int .i64 a.no, .int .i64 a.tg, .int .i64 a.r.sv, .string a.r.lt], .agg #[.int .i64 b.no, .int .i64 b.tg, .int .i64 b.r.sv, .string b.r.lt]] w fun e w' => e = .returned (.int .i64 (a.no - b.no)) ∧ Below w.heap.size w w' := by
  obtain ⟨h1, h2⟩ := ha
  obtain ⟨h3, h4⟩ := hb
  go_enter Tryd.func78, Tryd.ntmps78
  go_wp2
  go_ret
  exact ⟨rfl, ((Below.refl _ _).alloc (Nat.le_refl _) _).alloc (by simp) _⟩
theorem less_enters (args : Array Value) (w : World) : (callFunc 78 args).run Tryd.prog w = .ok (.enter 78 args) w := enters_of Tryd.func78 (by kernel_rfl) rfl args w
theorem GW.drewN {D : Nat} {w w1 : World} (h : GW D w w1) (q : Nat) : GW D w (w1.drewN q) := ⟨h.os, h.tape, h.output, h.size, h.block⟩
theorem RowC.drewN {w : World} {D off : Nat} {l : List Trn} (h : RowC w D off l) (q : Nat) : RowC (w.drewN q) D off l := h
theorem GW.in {D : Nat} {w w1 w2 : World} (h : GW D w w1) (g : Below w1.heap.size w1 w2) : GW D w w2 := h.below g
theorem ins_step {U1 : List Trn} {x : Trn} {q r : List Trn} (hq : q ++ r = so U1) (hL : ∀ y ∈ r, tLt x y) (hT : ∀ y ∈ U1, y.tg < x.tg) (hTd : Td U1) (hl : q = [] ∨ ∃ q' y, q = q' ++ [y] ∧ ¬ x.no < y.no) : so (U1 ++ [x]) = q ++ x :: r := by
  have hs : Sd (q ++ r) := by rw [hq]; exact so_sd hTd
  obtain ⟨s1, s2, s3⟩ := sd_app.1 hs
  have hm : ∀ y ∈ q ++ r, y.tg < x.tg := fun y hy => hT y ((so_perm U1).subset (by rw [← hq]; exact hy))
  have hqx : ∀ y ∈ q, tLt y x := by
    rcases hl with rfl | ⟨q', z, rfl, hz⟩
    · intro y hy; cases hy
    · intro y hy
      have hzx : tLt z x := (nlt_key (hm z (by simp))).2 hz
      rcases List.mem_append.1 hy with h | h
      · exact tLt_trans ((sd_app.1 s1).2.2 y h z (by simp)) hzx
      · obtain rfl := List.mem_singleton.1 h
        exact hzx
  refine so_eq ?_ ?_
  · have p1 : (U1 ++ [x]).Perm ((q ++ r) ++ [x]) := List.Perm.append_right [x] (by rw [hq]; exact (so_perm U1).symm)
    refine p1.trans ?_
    rw [List.append_assoc]
    exact List.Perm.append_left q List.perm_append_comm
  · exact sd_app.2 ⟨s1, List.pairwise_cons.2 ⟨hL, s2⟩, fun a ha b hb => by
      rcases List.mem_cons.1 hb with rfl | hb
      · exact hqx a ha
      · exact s3 a ha b hb⟩
set_option maxHeartbeats 4000000 in
set_option maxRecDepth 100000 in
theorem insSort_any (D off n cap : Nat) (P U S : List Trn) (a b : Int) (w : World) (h : RowC w D off (P ++ (U ++ S))) (hn : n = (P ++ (U ++ S)).length) (ha : a = (P.length : Int)) (hb : b = (P.length : Int) + U.length) (hT : Tg U) (hB : NoB U) (hn8 : n ≤ 100000) :
    Calls Tryd.prog 145 #[.slice (some ⟨D, off, none⟩) n cap, .int .i64 a, .int .i64 b, .func (.func 78) #[] #[]] w fun e w' => e = .returned (.tuple #[]) ∧ RowC w' D off (P ++ (so U ++ S)) ∧ GW D w w' := by
  have eg := less_enters
  obtain ⟨pa, hpa⟩ : ∃ pa : Nat, pa = P.length := ⟨_, rfl⟩
  obtain ⟨pb, hpb⟩ : ∃ pb : Nat, pb = pa + U.length := ⟨_, rfl⟩
  have ea : a = (pa : Int) := by omega
  have eb : b = (pb : Int) := by omega
  have hbn : pb ≤ n := by rw [hn]; simp only [List.length_append]; omega
  subst ea eb
  have HPA := Lib.hid hpa
  have HPB := Lib.hid hpb
  have HN := Lib.hid hn
  have HT := Lib.hid hT
  have HB := Lib.hid hB
  have HR := Lib.hid h
  clear h hn ha hb hpa hT hB
  have H0 : Hid (∃ U1 U2, U = U1 ++ U2 ∧ U1.length = min 1 U.length ∧ RowC w D off (P ++ (so U1 ++ (U2 ++ S)))) := by
    rcases U with _ | ⟨x, U'⟩
    · exact ⟨[], [], rfl, by simp, by have := HR.out; simpa [so_self (show Sd [] from List.Pairwise.nil)] using this⟩
    · exact ⟨[x], U', rfl, by simp, by have := HR.out; simpa [so_self (show Sd [x] from List.pairwise_singleton _ _)] using this⟩
  have HUl : Hid (U.length = pb - pa) := by show _ = _; omega
  have hab : pa ≤ pb := by omega
  clear hpb HR
  go_enter Tryd.func145, Tryd.ntmps145
  go_wp2
  go_loopw [8, 9] (fun i _ wr => ∃ k : Nat, 1 ≤ k ∧ pa + k ≤ pb + 1 ∧ i = .int .i64 ((pa + k : Nat) : Int) ∧ Hid (∃ U1 U2, U = U1 ++ U2 ∧ U1.length = min k U.length ∧ RowC wr D off (P ++ (so U1 ++ (U2 ++ S)))) ∧ Hid (GW D w wr)) (fun i _ _ => (pb - intOf i).toNat)
  case atStart => exact ⟨1, Nat.le_refl _, by omega, by first | rfl | go_num, H0, GW.refl D w⟩
  case round =>
    obtain ⟨k, hk1, hk2, rfl, HX, HG⟩ := hrel
    clear H0
    obtain ⟨i, hi⟩ : ∃ i : Nat, i = pa + k := ⟨_, rfl⟩
    rw [← hi] at hk2 ⊢
    have HI := Lib.hid hi
    have hi2 : pa + 1 ≤ i := by omega
    clear hi hk1
    by_cases hlt : i < pb
    · have hlti : (i : Int) < (pb : Int) := by omega
      obtain ⟨U1, U2, e1, e2, hr1⟩ := HX.out
      have e2' : U1.length = i - pa := by have h1 := HI.out; have h2 := HUl.out; omega
      rcases U2 with _ | ⟨x, U2⟩
      · exact absurd hlt (by rw [e1, List.append_nil] at HUl; have h2 := HUl.out; omega)
      have E1 := Lib.hid e1
      have E2 := Lib.hid e2'
      have hTd : Td U1 := by
        have := HT.out
        rw [e1] at this
        exact Tg.td (List.pairwise_append.1 this).1
      have hTx : ∀ y ∈ U1, y.tg < x.tg := by
        have := HT.out
        rw [e1] at this
        exact fun y hy => (List.pairwise_append.1 this).2.2 y hy x (by simp)
      have hBx : -2250000000 ≤ x.no ∧ x.no ≤ 4150000000 := HB.out x (by rw [e1]; simp)
      have hBq : ∀ y ∈ so U1, -2250000000 ≤ y.no ∧ y.no ≤ 4150000000 := fun y hy => HB.out y (by rw [e1]; exact List.mem_append_left _ ((so_perm U1).subset hy))
      have HTD := Lib.hid hTd
      have HTX := Lib.hid hTx
      have HBX := Lib.hid hBx
      have HBQ := Lib.hid hBq
      have H1 : Hid (∃ q r, q ++ r = so U1 ∧ (∀ y ∈ r, tLt x y) ∧ pa + q.length = i ∧ RowC wr D off (P ++ (q ++ (x :: r ++ (U2 ++ S))))) :=
        ⟨so U1, [], by simp, fun _ h => (by cases h), by rw [so_len]; omega, by simpa using hr1⟩
      clear e1 e2 hr1 e2' hTd hTx hBx hBq HX
      obtain ⟨wo, rfl⟩ : ∃ wo : World, wo = wr := ⟨_, rfl⟩
      go_wp2
      go_loopw [9] (fun j wr => ∃ j' : Nat, pa ≤ j' ∧ j' ≤ i ∧ j = .int .i64 j' ∧ Hid (∃ q r, q ++ r = so U1 ∧ (∀ y ∈ r, tLt x y) ∧ pa + q.length = j' ∧ RowC wr D off (P ++ (q ++ (x :: r ++ (U2 ++ S))))) ∧ Hid (GW D w wr)) (fun j _ => (intOf j).toNat)
      case atStart => exact ⟨i, by omega, Nat.le_refl _, rfl, H1, HG⟩
      case round =>
        obtain ⟨j, hj1, hj2, rfl, HJ, HGj⟩ := hrel
        clear H1
        obtain ⟨q, r, q1, q2, q3, q4⟩ := HJ.out
        have Q1 := Lib.hid q1
        have Q2 := Lib.hid q2
        have Q3 := Lib.hid q3
        have Q4 := Lib.hid q4
        have HSP : Hid (so U1 = q ++ r) := q1.symm
        have hx? : (P ++ (q ++ (x :: r ++ (U2 ++ S))))[j]? = some x := by
          rw [← List.append_assoc, List.getElem?_append_right (by rw [List.length_append]; have := HPA.out; omega)]
          have : j - (P ++ q).length = 0 := by rw [List.length_append]; have := HPA.out; omega
          rw [this]
          rfl
        obtain ⟨x0, x1, x2, x3⟩ := q4.at hx?
        have HXq := Lib.hid hx?
        clear q1 q2 q3 q4 hx?
        by_cases hq : j = pa
        · have hd : decide (pa < j) = false := by rw [decide_eq_false_iff_not]; omega
          have hq0 : q = [] := List.length_eq_zero_iff.1 (by have := Q3.out; omega)
          have HQ0 := Lib.hid hq0
          clear hq hq0 x0 x1 x2 x3
          go_wp2
          go_quiet (fail)
          go_wp2
          go_roundw
          case rel =>
            refine ⟨k + 1, by omega, by have := HI.out; omega, by have := HI.out; subst this; go_num, ⟨U1 ++ [x], U2, by rw [E1.out]; simp, ?_, ?_⟩, HGj.out.drewN _⟩
            · rw [List.length_append, List.length_singleton]; have h1 := E2.out; have h2 := HI.out; have h3 := HUl.out; omega
            · rw [ins_step Q1.out Q2.out HTX.out HTD.out (.inl HQ0.out)]
              have := Q4.out.drewN nq
              simpa using this
          case measure => simp [intOf]; omega
        · obtain ⟨q', y, hq'⟩ : ∃ q' y, q = q' ++ [y] := by
            rcases List.eq_nil_or_concat q with e | ⟨q', y, e⟩
            · exact absurd (by rw [e] at Q3; exact Q3.out.symm) hq
            · exact ⟨q', y, by rw [e, List.concat_eq_append]⟩
          subst hq'
          have hjp : pa < j := by omega
          have hy? : (P ++ (q' ++ [y] ++ (x :: r ++ (U2 ++ S))))[j - 1]? = some y := by
            have e : P ++ (q' ++ [y] ++ (x :: r ++ (U2 ++ S))) = (P ++ q') ++ y :: (x :: r ++ (U2 ++ S)) := by simp
            have e2 : j - 1 = (P ++ q').length := by have h1 := Q3.out; have h2 := HPA.out; simp only [List.length_append, List.length_singleton] at h1 ⊢; omega
            rw [e, e2]
            simp
          obtain ⟨y0, y1, y2, y3⟩ := Q4.out.at hy?
          have HYq := Lib.hid hy?
          have HJP := Lib.hid hjp
          have HBy := Lib.hid (HBQ.out y (by rw [← Q1.out]; simp))
          have hd : decide (pa < j) = true := by rw [decide_eq_true_iff]; omega
          have hj0 : (1 : Int) ≤ (j : Int) := by omega
          have hjn : (j : Int) < (n : Int) := by omega
          have t1 : IntKind.i64.wrap ((j : Int) - 1) = (j : Int) - 1 := IntWalk.i64_in _ (by omega)
          have t2 : (0 : Int) ≤ (j : Int) - 1 := by omega
          have t3 : (j : Int) - 1 < (n : Int) := by omega
          have t4 : ((j : Int) - 1).toNat = j - 1 := by omega
          have HL := Lib.hid (fun w' => less_any x y w' HBX.out HBy.out)
          clear hy? hq hjp
          by_cases hlt2 : x.no < y.no
          · have hl2 : decide (x.no - y.no < 0) = true := by rw [decide_eq_true_iff]; omega
            go_wp2
            go_region_held3 (fun w' => w'.cell? ⟨D, off + j * 4, none⟩ = some (.int .i64 x.no) ∧ w'.cell? ⟨D, off + j * 4 + 1, none⟩ = some (.int .i64 x.tg) ∧ w'.cell? ⟨D, off + j * 4 + 2, none⟩ = some (.int .i64 x.r.sv) ∧ w'.cell? ⟨D, off + j * 4 + 3, none⟩ = some (.string x.r.lt) ∧ w'.cell? ⟨D, off + (j - 1) * 4, none⟩ = some (.int .i64 y.no) ∧ w'.cell? ⟨D, off + (j - 1) * 4 + 1, none⟩ = some (.int .i64 y.tg) ∧ w'.cell? ⟨D, off + (j - 1) * 4 + 2, none⟩ = some (.int .i64 y.r.sv) ∧ w'.cell? ⟨D, off + (j - 1) * 4 + 3, none⟩ = some (.string y.r.lt)) (first | (with_reducible exact ⟨x0, x1, x2, x3, y0, y1, y2, y3⟩) | (with_reducible exact ⟨s0, s1, s2, s3, r0, r1, r2, r3⟩) | go_keep) ((go_at_call 78; refine (HL.out _).mono ?_; rintro e w9 ⟨rfl, hb9⟩; have R9 := Lib.hid (Q4.out.drew.below hb9); obtain ⟨s0, s1, s2, s3⟩ := R9.out.at HXq.out; obtain ⟨r0, r1, r2, r3⟩ := R9.out.at HYq.out; have G9 := Lib.hid (HGj.out.drew.below hb9); clear hb9))
            clear x0 x1 x2 x3 y0 y1 y2 y3
            have fz := R9.out.2.1
            go_wp2
            go_region
            go_wp2
            go_roundw
            case rel =>
              refine ⟨j - 1, by have := HJP.out; omega, by omega, by rw [show ((j - 1 : Nat) : Int) = (j : Int) - 1 by omega], ⟨q', y :: r, by rw [← Q1.out]; simp, ?_, ?_, ?_⟩, G9.out.swap _ _ x y⟩
              · intro z hz
                rcases List.mem_cons.1 hz with rfl | hz
                · exact .inl hlt2
                · exact Q2.out z hz
              · have := Q3.out; rw [List.length_append, List.length_singleton] at this; omega
              · have h1 := R9.out.swap HXq.out HYq.out
                have e : P ++ (q' ++ [y] ++ (x :: r ++ (U2 ++ S))) = (P ++ q') ++ y :: x :: (r ++ (U2 ++ S)) := by simp
                have e2 : j - 1 = (P ++ q').length := by have h1 := Q3.out; have h2 := HPA.out; simp only [List.length_append, List.length_singleton] at h1 ⊢; omega
                have e3 : j = (P ++ q').length + 1 := by omega
                have e4 : swp (P ++ (q' ++ [y] ++ (x :: r ++ (U2 ++ S)))) j (j - 1) = P ++ (q' ++ (x :: (y :: r) ++ (U2 ++ S))) := by
                  rw [swp_sym, e, e2, e3, swp_adj]
                  simp
                rw [e4] at h1
                exact h1
            case measure => simp [intOf]; omega
          · have hl2 : decide (x.no - y.no < 0) = false := by rw [decide_eq_false_iff_not]; omega
            go_wp2
            go_region_held3 (fun w' => w'.cell? ⟨D, off + j * 4, none⟩ = some (.int .i64 x.no) ∧ w'.cell? ⟨D, off + j * 4 + 1, none⟩ = some (.int .i64 x.tg) ∧ w'.cell? ⟨D, off + j * 4 + 2, none⟩ = some (.int .i64 x.r.sv) ∧ w'.cell? ⟨D, off + j * 4 + 3, none⟩ = some (.string x.r.lt) ∧ w'.cell? ⟨D, off + (j - 1) * 4, none⟩ = some (.int .i64 y.no) ∧ w'.cell? ⟨D, off + (j - 1) * 4 + 1, none⟩ = some (.int .i64 y.tg) ∧ w'.cell? ⟨D, off + (j - 1) * 4 + 2, none⟩ = some (.int .i64 y.r.sv) ∧ w'.cell? ⟨D, off + (j - 1) * 4 + 3, none⟩ = some (.string y.r.lt)) (first | (with_reducible exact ⟨x0, x1, x2, x3, y0, y1, y2, y3⟩) | (with_reducible exact ⟨s0, s1, s2, s3, r0, r1, r2, r3⟩) | go_keep) ((go_at_call 78; refine (HL.out _).mono ?_; rintro e w9 ⟨rfl, hb9⟩; have R9 := Lib.hid (Q4.out.drew.below hb9); obtain ⟨s0, s1, s2, s3⟩ := R9.out.at HXq.out; obtain ⟨r0, r1, r2, r3⟩ := R9.out.at HYq.out; have G9 := Lib.hid (HGj.out.drew.below hb9); clear hb9))
            clear x0 x1 x2 x3 y0 y1 y2 y3
            go_wp2
            go_roundw
            case rel =>
              refine ⟨k + 1, by omega, by have := HI.out; omega, by have := HI.out; subst this; go_num, ⟨U1 ++ [x], U2, by rw [E1.out]; simp, ?_, ?_⟩, G9.out⟩
              · rw [List.length_append, List.length_singleton]; have h1 := E2.out; have h2 := HI.out; have h3 := HUl.out; omega
              · rw [ins_step Q1.out Q2.out HTX.out HTD.out (.inr ⟨q', y, rfl, by omega⟩)]
                have := R9.out
                simpa using this
            case measure => simp [intOf]; omega
    · have hge : ¬ (i : Int) < (pb : Int) := by omega
      obtain ⟨U1, U2, e1, e2, hr1⟩ := HX.out
      have hz : U2 = [] := by
        have h1 := HI.out
        have h2 := HUl.out
        have h3 := congrArg List.length e1
        rw [List.length_append] at h3
        exact List.length_eq_zero_iff.1 (by omega)
      subst hz
      rw [List.append_nil] at e1
      subst e1
      have HF := Lib.hid hr1
      clear e2 hr1 HX
      go_wp2
      go_end0
      exact ⟨rfl, HF.out, HG.out⟩
end Go.Proofs.YtdpbedkppomffaaDoor
