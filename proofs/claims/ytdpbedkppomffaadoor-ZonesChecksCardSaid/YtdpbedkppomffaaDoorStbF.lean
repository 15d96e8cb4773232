/-
  slices.symMergeCmpFunc over turns.
-/
import Derived.Test.YtdpbedkppomffaaDoorStbE
namespace Go.Proofs.YtdpbedkppomffaaDoor
set_option linter.unusedVariables false
set_option linter.unusedSimpArgs false
open Go.ChangeShapes Go.WideShapes Go.ChangeAt Go.RowKit

/-- where a turn belongs among turns in order. -/
theorem so_into {V1 V2 : List Trn} {u : Trn} (hV : Sd (V1 ++ V2)) (h1 : ∀ y ∈ V1, tLt y u) (h2 : ∀ y ∈ V2, tLt u y) : so (u :: (V1 ++ V2)) = V1 ++ u :: V2 := by
  obtain ⟨s1, s2, s3⟩ := sd_app.1 hV
  refine so_eq ?_ (sd_app.2 ⟨s1, List.pairwise_cons.2 ⟨h2, s2⟩, fun a ha b hb => ?_⟩)
  · exact (List.perm_middle (a := u) (l₁ := V1) (l₂ := V2)).symm
  · rcases List.mem_cons.1 hb with rfl | hb
    · exact h1 a ha
    · exact s3 a ha b hb
theorem mid_bd {i j : Nat} (h : i < j) : ∃ m : Nat, ((i : Int) + (j : Int)) / 2 = (m : Int) ∧ i ≤ m ∧ m < j := ⟨(i + j) / 2, by omega, by omega, by omega⟩
theorem sd_le {V : List Trn} (hV : Sd V) {i k : Nat} (hk : k < V.length) (hi : i ≤ k) {u : Trn} (h : tLt V[k] u) : tLt (V[i]'(by omega)) u := by
  rcases Nat.lt_or_ge i k with hlt | hge
  · exact tLt_trans (List.pairwise_iff_getElem.1 hV i k (by omega) hk hlt) h
  · obtain rfl : i = k := by omega
    exact h
theorem sd_ge {V : List Trn} (hV : Sd V) {i k : Nat} (hi : i < V.length) (hk : k ≤ i) {u : Trn} (h : tLt u (V[k]'(by omega))) : tLt u V[i] := by
  rcases Nat.lt_or_ge k i with hlt | hge
  · exact tLt_trans h (List.pairwise_iff_getElem.1 hV k i (by omega) hi hlt)
  · obtain rfl : i = k := by omega
    exact h
/-- a list, parted by what a search has found. -/
theorem part_at {V : List Trn} {u : Trn} {k : Nat} (hk : k ≤ V.length) (h1 : ∀ i (h : i < V.length), i < k → tLt V[i] u) (h2 : ∀ i (h : i < V.length), k ≤ i → tLt u V[i]) : ∃ V1 V2, V = V1 ++ V2 ∧ V1.length = k ∧ (∀ y ∈ V1, tLt y u) ∧ ∀ y ∈ V2, tLt u y := by
  refine ⟨V.take k, V.drop k, (List.take_append_drop _ _).symm, by rw [List.length_take]; omega, fun y hy => ?_, fun y hy => ?_⟩
  · obtain ⟨i, hi, rfl⟩ := List.mem_iff_getElem.1 hy
    rw [List.length_take] at hi
    rw [List.getElem_take]
    exact h1 i (by omega) (by omega)
  · obtain ⟨i, hi, rfl⟩ := List.mem_iff_getElem.1 hy
    rw [List.length_drop] at hi
    rw [List.getElem_drop]
    exact h2 (k + i) (by omega) (by omega)
set_option maxHeartbeats 4000000 in
set_option maxRecDepth 100000 in
theorem sym_left (D off n cap : Nat) (P V S : List Trn) (u : Trn) (a m b : Int) (w : World) (h : RowC w D off (P ++ (u :: V ++ S))) (hn : n = (P ++ (u :: V ++ S)).length) (ha : a = (P.length : Int)) (hm : m = (P.length : Int) + 1) (hb : b = (P.length : Int) + 1 + V.length) (hV : Sd V) (hA : ∀ y ∈ V, u.tg < y.tg) (hB : NoB (u :: V)) (hn8 : n ≤ 100000) :
    Calls Tryd.prog 146 #[.slice (some ⟨D, off, none⟩) n cap, .int .i64 a, .int .i64 m, .int .i64 b, .func (.func 78) #[] #[]] w fun e w' => e = .returned (.tuple #[]) ∧ RowC w' D off (P ++ (so (u :: V) ++ S)) ∧ GW D w w' := by
  have eg := less_enters
  obtain ⟨pa, hpa⟩ : ∃ pa : Nat, pa = P.length := ⟨_, rfl⟩
  obtain ⟨pm, hpm⟩ : ∃ pm : Nat, pm = pa + 1 := ⟨_, rfl⟩
  obtain ⟨pb, hpb⟩ : ∃ pb : Nat, pb = pa + 1 + V.length := ⟨_, rfl⟩
  have ea : a = (pa : Int) := by omega
  have em : m = (pm : Int) := by omega
  have eb : b = (pb : Int) := by omega
  have hbn : pb ≤ n := by rw [hn]; simp only [List.length_append, List.length_cons]; omega
  have hmb : pm ≤ pb := by omega
  subst ea em eb
  have e1 : (pm : Int) - (pa : Int) = 1 := by omega
  have HPA := Lib.hid hpa
  have HPM := Lib.hid hpm
  have HPB := Lib.hid hpb
  have HN := Lib.hid hn
  have HV := Lib.hid hV
  have HA := Lib.hid hA
  have HB := Lib.hid hB
  have HR := Lib.hid h
  clear h hn ha hm hb hpa hpm hpb hV hA hB
  go_enter Tryd.func146, Tryd.ntmps146
  go_wp2
  go_loopw [10, 11, 12] (fun i j _ wr => ∃ i' j' : Nat, pm ≤ i' ∧ i' ≤ j' ∧ j' ≤ pb ∧ i = .int .i64 i' ∧ j = .int .i64 j' ∧ Hid (RowC wr D off (P ++ (u :: V ++ S))) ∧ Hid (GW D w wr) ∧ Hid (∀ k (h : k < V.length), k < i' - pm → tLt V[k] u) ∧ Hid (∀ k (h : k < V.length), j' - pm ≤ k → tLt u V[k])) (fun i j _ _ => (intOf j - intOf i).toNat)
  case atStart => exact ⟨pm, pb, Nat.le_refl _, hmb, Nat.le_refl _, rfl, rfl, HR, GW.refl D w, fun k h h1 => by omega, fun k h h1 => by have h2 := HPB.out; have h3 := HPM.out; omega⟩
  case round =>
    obtain ⟨i, j, hi, hij, hj, rfl, rfl, HR', HG, HLo, HHi⟩ := hrel
    by_cases hlt : i < j
    · have hlti : (i : Int) < (j : Int) := by omega
      obtain ⟨m, hm, hm1, hm2⟩ := mid_bd hlt
      have hmV : m - pm < V.length := by have h2 := HPB.out; have h3 := HPM.out; omega
      have HMV := Lib.hid hmV
      obtain ⟨x, hx⟩ : ∃ x, x = V[m - pm]'HMV.out := ⟨_, rfl⟩
      have hx? : (P ++ (u :: V ++ S))[m]? = some x := by
        have e : m = P.length + ((m - pm) + 1) := by have h2 := HPA.out; have h3 := HPM.out; omega
        rw [e, List.getElem?_append_right (by omega), Nat.add_sub_cancel_left, List.cons_append, List.getElem?_cons_succ, List.getElem?_append_left hmV, List.getElem?_eq_getElem hmV, ← hx]
      obtain ⟨y, hy⟩ : ∃ y, y = u := ⟨_, rfl⟩
      have hu? : (P ++ (u :: V ++ S))[pa]? = some y := by
        rw [HPA.out, hy]; simp
      have HY := Lib.hid hy
      have HX := Lib.hid hx
      have HXq := Lib.hid hx?
      have HYq := Lib.hid hu?
      have hxm : x ∈ V := by rw [hx]; exact List.getElem_mem _
      have HL := Lib.hid (fun w' => less_any x y w' (HB.out x (List.mem_cons_of_mem _ hxm)) (HB.out y (by rw [hy]; simp)))
      have hk := lt_key (HA.out x hxm)
      rw [← hy] at hk
      have HK := Lib.hid hk
      obtain ⟨x0, x1, x2, x3⟩ := HR'.out.at hx?
      obtain ⟨y0, y1, y2, y3⟩ := HR'.out.at hu?
      have hmn : (m : Int) < (n : Int) := by omega
      have hpn : (pa : Int) < (n : Int) := by have h3 := HPM.out; omega
      clear hx hx? hu? hxm hk hy hmV
      by_cases hc : x.no < y.no
      · have hl2 : decide (x.no - y.no < 0) = true := by rw [decide_eq_true_iff]; omega
        go_wp2
        go_region_held3 (fun w' => w'.cell? ⟨D, off + m * 4, none⟩ = some (.int .i64 x.no) ∧ w'.cell? ⟨D, off + m * 4 + 1, none⟩ = some (.int .i64 x.tg) ∧ w'.cell? ⟨D, off + m * 4 + 2, none⟩ = some (.int .i64 x.r.sv) ∧ w'.cell? ⟨D, off + m * 4 + 3, none⟩ = some (.string x.r.lt) ∧ w'.cell? ⟨D, off + pa * 4, none⟩ = some (.int .i64 y.no) ∧ w'.cell? ⟨D, off + pa * 4 + 1, none⟩ = some (.int .i64 y.tg) ∧ w'.cell? ⟨D, off + pa * 4 + 2, none⟩ = some (.int .i64 y.r.sv) ∧ w'.cell? ⟨D, off + pa * 4 + 3, none⟩ = some (.string y.r.lt)) (first | (with_reducible exact ⟨x0, x1, x2, x3, y0, y1, y2, y3⟩) | (with_reducible exact ⟨s0, s1, s2, s3, r0, r1, r2, r3⟩) | go_keep) ((go_at_call 78; refine (HL.out _).mono ?_; rintro e w9 ⟨rfl, hb9⟩; have R9 := Lib.hid (HR'.out.drew.below hb9); obtain ⟨s0, s1, s2, s3⟩ := R9.out.at HXq.out; obtain ⟨r0, r1, r2, r3⟩ := R9.out.at HYq.out; have G9 := Lib.hid (HG.out.drew.below hb9); clear hb9))
        clear x0 x1 x2 x3 y0 y1 y2 y3
        go_wp2
        go_roundw
        case rel =>
          refine ⟨m + 1, j, by omega, by omega, hj, by go_num, rfl, R9, G9, fun k h hk => ?_, HHi⟩
          have hx' : tLt (V[m - pm]'HMV.out) u := by
            have := HK.out.2 hc
            rw [HX.out, HY.out] at this
            exact this
          exact sd_le HV.out HMV.out (by omega) hx'
        case measure => simp [intOf]; omega
      · have hl2 : decide (x.no - y.no < 0) = false := by rw [decide_eq_false_iff_not]; omega
        go_wp2
        go_region_held3 (fun w' => w'.cell? ⟨D, off + m * 4, none⟩ = some (.int .i64 x.no) ∧ w'.cell? ⟨D, off + m * 4 + 1, none⟩ = some (.int .i64 x.tg) ∧ w'.cell? ⟨D, off + m * 4 + 2, none⟩ = some (.int .i64 x.r.sv) ∧ w'.cell? ⟨D, off + m * 4 + 3, none⟩ = some (.string x.r.lt) ∧ w'.cell? ⟨D, off + pa * 4, none⟩ = some (.int .i64 y.no) ∧ w'.cell? ⟨D, off + pa * 4 + 1, none⟩ = some (.int .i64 y.tg) ∧ w'.cell? ⟨D, off + pa * 4 + 2, none⟩ = some (.int .i64 y.r.sv) ∧ w'.cell? ⟨D, off + pa * 4 + 3, none⟩ = some (.string y.r.lt)) (first | (with_reducible exact ⟨x0, x1, x2, x3, y0, y1, y2, y3⟩) | (with_reducible exact ⟨s0, s1, s2, s3, r0, r1, r2, r3⟩) | go_keep) ((go_at_call 78; refine (HL.out _).mono ?_; rintro e w9 ⟨rfl, hb9⟩; have R9 := Lib.hid (HR'.out.drew.below hb9); obtain ⟨s0, s1, s2, s3⟩ := R9.out.at HXq.out; obtain ⟨r0, r1, r2, r3⟩ := R9.out.at HYq.out; have G9 := Lib.hid (HG.out.drew.below hb9); clear hb9))
        clear x0 x1 x2 x3 y0 y1 y2 y3
        go_wp2
        go_roundw
        case rel =>
          refine ⟨i, m, hi, by omega, by omega, rfl, rfl, R9, G9, HLo, fun k h hk => ?_⟩
          have hx' : tLt u (V[m - pm]'HMV.out) := by
            have h1 := HA.out _ (List.getElem_mem HMV.out)
            refine (nlt_key h1).2 ?_
            rw [← HX.out, ← HY.out]
            omega
          exact sd_ge HV.out h (by omega) hx'
        case measure => simp [intOf]; omega
    · obtain rfl : i = j := by omega
      have hnl : ¬ (i : Int) < (i : Int) := by omega
      obtain ⟨V1, V2, e, hl1, h1, h2⟩ := part_at (V := V) (u := u) (k := i - pm) (by have h2 := HPB.out; have h3 := HPM.out; omega) HLo.out HHi.out
      have HSO : Hid (so (u :: V) = V1 ++ u :: V2) := by
        show _ = _
        rw [e]
        exact so_into (by rw [← e]; exact HV.out) h1 h2
      have HE := Lib.hid e
      have HL1 : Hid (pa + V1.length + 1 = i) := by show _ = _; have h3 := HPM.out; omega
      have H1 : Hid (∃ A B, V1 = A ++ B ∧ pa + A.length = pa ∧ RowC wr D off (P ++ (A ++ (u :: (B ++ (V2 ++ S)))))) := ⟨[], V1, rfl, rfl, by have := HR'.out; rw [e] at this; simpa using this⟩
      have hpi : pa + 1 ≤ i := by have h3 := HPM.out; omega
      clear e hl1 h1 h2 HLo HHi
      obtain ⟨wo, rfl⟩ : ∃ wo : World, wo = wr := ⟨_, rfl⟩
      go_wp2
      go_loopw [13] (fun k wr => ∃ k' : Nat, pa ≤ k' ∧ k' + 1 ≤ i ∧ k = .int .i64 k' ∧ Hid (∃ A B, V1 = A ++ B ∧ pa + A.length = k' ∧ RowC wr D off (P ++ (A ++ (u :: (B ++ (V2 ++ S)))))) ∧ Hid (GW D w wr)) (fun k _ => (i - intOf k).toNat)
      case atStart => exact ⟨pa, Nat.le_refl _, hpi, rfl, H1, HG⟩
      case round =>
        obtain ⟨k, hk1, hk2, rfl, HX, HGk⟩ := hrel
        clear H1
        obtain ⟨A, B, e1, e2, e3⟩ := HX.out
        have E1 := Lib.hid e1
        have E2 := Lib.hid e2
        have E3 := Lib.hid e3
        have hAB : V1.length = A.length + B.length := by rw [e1, List.length_append]
        clear HX
        by_cases hlt : k + 1 < i
        · have hlti : (k : Int) < (i : Int) - 1 := by omega
          rcases B with _ | ⟨x, B⟩
          · exact absurd hlt (by have h1 := HL1.out; simp at hAB; omega)
          have hu? : (P ++ (A ++ (u :: (x :: B ++ (V2 ++ S)))))[k]? = some u := by
            have e : P ++ (A ++ (u :: (x :: B ++ (V2 ++ S)))) = (P ++ A) ++ u :: (x :: B ++ (V2 ++ S)) := by simp
            have e' : k = (P ++ A).length := by rw [List.length_append]; have := HPA.out; omega
            rw [e, e']; simp
          have hx? : (P ++ (A ++ (u :: (x :: B ++ (V2 ++ S)))))[k + 1]? = some x := by
            have e : P ++ (A ++ (u :: (x :: B ++ (V2 ++ S)))) = (P ++ A) ++ u :: (x :: B ++ (V2 ++ S)) := by simp
            have e' : k + 1 = (P ++ A).length + 1 := by rw [List.length_append]; have := HPA.out; omega
            rw [e, e', List.getElem?_append_right (by omega), Nat.add_sub_cancel_left]; rfl
          obtain ⟨x0, x1, x2, x3⟩ := e3.at hu?
          obtain ⟨y0, y1, y2, y3⟩ := e3.at hx?
          have HXq := Lib.hid hu?
          have HYq := Lib.hid hx?
          have fz := e3.2.1
          have hkn : (k : Int) + 1 < (n : Int) := by omega
          clear e1 e2 e3 hu? hx? hAB
          go_wp2
          go_region
          go_wp2
          go_roundw
          case rel =>
            refine ⟨k + 1, by omega, by omega, by go_num, ⟨A ++ [x], B, by rw [E1.out]; simp, by have := E2.out; rw [List.length_append, List.length_singleton]; omega, ?_⟩, HGk.out.swap _ _ u x⟩
            have h1 := E3.out.swap HXq.out HYq.out
            have e : P ++ (A ++ (u :: (x :: B ++ (V2 ++ S)))) = (P ++ A) ++ u :: x :: (B ++ (V2 ++ S)) := by simp
            have e' : k = (P ++ A).length := by rw [List.length_append]; have h1 := HPA.out; have h2 := E2.out; omega
            have e4 : swp (P ++ (A ++ (u :: (x :: B ++ (V2 ++ S))))) k (k + 1) = P ++ (A ++ [x] ++ (u :: (B ++ (V2 ++ S)))) := by
              rw [e, e', swp_adj]; simp
            rw [e4] at h1
            exact h1
          case measure => simp [intOf]; omega
        · have hge : ¬ (k : Int) < (i : Int) - 1 := by omega
          have hB0 : B = [] := List.length_eq_zero_iff.1 (by have h1 := HL1.out; omega)
          subst hB0
          have HF : Hid (RowC wr D off (P ++ (so (u :: V) ++ S))) := by
            show RowC wr D off _
            rw [HSO.out, E1.out]
            have := E3.out
            simpa using this
          clear e1 e2 e3 hAB
          go_wp2
          refine bodyPost_ret (results_none rfl _ _ _) rfl ?_
          exact ⟨rfl, HF.out, HGk.out⟩
theorem so_into2 {U1 U2 : List Trn} {v : Trn} (hU : Sd (U1 ++ U2)) (h1 : ∀ y ∈ U1, tLt y v) (h2 : ∀ y ∈ U2, tLt v y) : so ((U1 ++ U2) ++ [v]) = U1 ++ v :: U2 := by
  have h := so_into hU h1 h2
  obtain ⟨s1, s2, s3⟩ := sd_app.1 hU
  refine so_eq ?_ (by rw [← h]; exact (by rw [h]; exact sd_app.2 ⟨s1, List.pairwise_cons.2 ⟨h2, s2⟩, fun a ha b hb => by
    rcases List.mem_cons.1 hb with rfl | hb
    · exact h1 a ha
    · exact s3 a ha b hb⟩ : Sd (so (v :: (U1 ++ U2)))))
  rw [List.append_assoc]
  exact List.Perm.append_left U1 List.perm_append_comm
set_option maxHeartbeats 4000000 in
set_option maxRecDepth 100000 in
theorem sym_right (D off n cap : Nat) (P U S : List Trn) (v : Trn) (a m b : Int) (w : World) (h : RowC w D off (P ++ ((U ++ [v]) ++ S))) (hn : n = (P ++ ((U ++ [v]) ++ S)).length) (ha : a = (P.length : Int)) (hm : m = (P.length : Int) + U.length) (hb : b = (P.length : Int) + U.length + 1) (hU1 : U.length ≠ 1) (hU : Sd U) (hA : ∀ x ∈ U, x.tg < v.tg) (hB : NoB (U ++ [v])) (hn8 : n ≤ 100000) :
    Calls Tryd.prog 146 #[.slice (some ⟨D, off, none⟩) n cap, .int .i64 a, .int .i64 m, .int .i64 b, .func (.func 78) #[] #[]] w fun e w' => e = .returned (.tuple #[]) ∧ RowC w' D off (P ++ (so (U ++ [v]) ++ S)) ∧ GW D w w' := by
  have eg := less_enters
  obtain ⟨pa, hpa⟩ : ∃ pa : Nat, pa = P.length := ⟨_, rfl⟩
  obtain ⟨pu, hpu⟩ : ∃ pu : Nat, pu = U.length := ⟨_, rfl⟩
  obtain ⟨pm, hpm⟩ : ∃ pm : Nat, pm = pa + pu := ⟨_, rfl⟩
  obtain ⟨pb, hpb⟩ : ∃ pb : Nat, pb = pm + 1 := ⟨_, rfl⟩
  have ea : a = (pa : Int) := by omega
  have em : m = (pm : Int) := by omega
  have eb : b = (pb : Int) := by omega
  have hbn : pb ≤ n := by rw [hn]; simp only [List.length_append, List.length_singleton]; omega
  have ham : pa ≤ pm := by omega
  have hmn : (pm : Int) < (n : Int) := by omega
  subst ea em eb
  have e1 : (pm : Int) - (pa : Int) = (pu : Int) := by omega
  have e1' : ((pu : Int) == 1) = false := by rw [beq_eq_false_iff_ne]; omega
  have e2 : (pb : Int) - (pm : Int) = 1 := by omega
  have HPA := Lib.hid hpa
  have HPU := Lib.hid hpu
  have HPM := Lib.hid hpm
  have HN := Lib.hid hn
  have HU := Lib.hid hU
  have HA := Lib.hid hA
  have HB := Lib.hid hB
  have HR := Lib.hid h
  clear h hn ha hm hb hpa hpm hpb hpu hU hA hB hU1
  go_enter Tryd.func146, Tryd.ntmps146
  go_wp2
  clear e1 e1' e2
  go_loopw [14, 15, 16] (fun i j _ wr => ∃ i' j' : Nat, pa ≤ i' ∧ i' ≤ j' ∧ j' ≤ pm ∧ i = .int .i64 i' ∧ j = .int .i64 j' ∧ Hid (RowC wr D off (P ++ ((U ++ [v]) ++ S))) ∧ Hid (GW D w wr) ∧ Hid (∀ k (h : k < U.length), k < i' - pa → tLt U[k] v) ∧ Hid (∀ k (h : k < U.length), j' - pa ≤ k → tLt v U[k])) (fun i j _ _ => (intOf j - intOf i).toNat)
  case atStart => exact ⟨pa, pm, Nat.le_refl _, ham, Nat.le_refl _, rfl, rfl, HR, GW.refl D w, fun k h h1 => by omega, fun k h h1 => by have h2 := HPU.out; have h3 := HPM.out; omega⟩
  case round =>
    obtain ⟨i, j, hi, hij, hj, rfl, rfl, HR', HG, HLo, HHi⟩ := hrel
    by_cases hlt : i < j
    · have hlti : (i : Int) < (j : Int) := by omega
      obtain ⟨m, hm, hm1, hm2⟩ := mid_bd hlt
      have hmV : m - pa < U.length := by have h2 := HPU.out; have h3 := HPM.out; omega
      have HMV := Lib.hid hmV
      obtain ⟨y, hy⟩ : ∃ y, y = U[m - pa]'HMV.out := ⟨_, rfl⟩
      have hy? : (P ++ ((U ++ [v]) ++ S))[m]? = some y := by
        have e : m = P.length + (m - pa) := by have h2 := HPA.out; omega
        rw [e, List.getElem?_append_right (by omega), Nat.add_sub_cancel_left, List.append_assoc, List.getElem?_append_left hmV, List.getElem?_eq_getElem hmV, ← hy]
      obtain ⟨x, hx⟩ : ∃ x, x = v := ⟨_, rfl⟩
      have hx? : (P ++ ((U ++ [v]) ++ S))[pm]? = some x := by
        have e : pm = P.length + U.length := by have h2 := HPA.out; have h3 := HPM.out; have h4 := HPU.out; omega
        rw [e, hx]; simp
      have HY := Lib.hid hy
      have HX := Lib.hid hx
      have HXq := Lib.hid hx?
      have HYq := Lib.hid hy?
      have hym : y ∈ U := by rw [hy]; exact List.getElem_mem _
      have HL := Lib.hid (fun w' => less_any x y w' (HB.out x (by rw [hx]; simp)) (HB.out y (List.mem_append_left _ hym)))
      have HTG := Lib.hid (HA.out y hym)
      obtain ⟨x0, x1, x2, x3⟩ := HR'.out.at hx?
      obtain ⟨y0, y1, y2, y3⟩ := HR'.out.at hy?
      have hmn2 : (m : Int) < (n : Int) := by omega
      clear hx hx? hy hy? hym hmV
      by_cases hc : x.no < y.no
      · have hl2 : decide (x.no - y.no < 0) = true := by rw [decide_eq_true_iff]; omega
        go_wp2
        go_region_held3 (fun w' => w'.cell? ⟨D, off + pm * 4, none⟩ = some (.int .i64 x.no) ∧ w'.cell? ⟨D, off + pm * 4 + 1, none⟩ = some (.int .i64 x.tg) ∧ w'.cell? ⟨D, off + pm * 4 + 2, none⟩ = some (.int .i64 x.r.sv) ∧ w'.cell? ⟨D, off + pm * 4 + 3, none⟩ = some (.string x.r.lt) ∧ w'.cell? ⟨D, off + m * 4, none⟩ = some (.int .i64 y.no) ∧ w'.cell? ⟨D, off + m * 4 + 1, none⟩ = some (.int .i64 y.tg) ∧ w'.cell? ⟨D, off + m * 4 + 2, none⟩ = some (.int .i64 y.r.sv) ∧ w'.cell? ⟨D, off + m * 4 + 3, none⟩ = some (.string y.r.lt)) (first | (with_reducible exact ⟨x0, x1, x2, x3, y0, y1, y2, y3⟩) | (with_reducible exact ⟨s0, s1, s2, s3, r0, r1, r2, r3⟩) | go_keep) ((go_at_call 78; refine (HL.out _).mono ?_; rintro e w9 ⟨rfl, hb9⟩; have R9 := Lib.hid (HR'.out.drew.below hb9); obtain ⟨s0, s1, s2, s3⟩ := R9.out.at HXq.out; obtain ⟨r0, r1, r2, r3⟩ := R9.out.at HYq.out; have G9 := Lib.hid (HG.out.drew.below hb9); clear hb9))
        clear x0 x1 x2 x3 y0 y1 y2 y3
        go_wp2
        go_roundw
        case rel =>
          refine ⟨i, m, hi, by omega, by omega, rfl, rfl, R9, G9, HLo, fun k h hk => ?_⟩
          have hx' : tLt v (U[m - pa]'HMV.out) := by
            have h1 := (lt_key HTG.out).2 (by rw [← HX.out]; exact hc)
            rw [HY.out] at h1
            exact h1
          exact sd_ge HU.out h (by omega) hx'
        case measure => simp [intOf]; omega
      · have hl2 : decide (x.no - y.no < 0) = false := by rw [decide_eq_false_iff_not]; omega
        go_wp2
        go_region_held3 (fun w' => w'.cell? ⟨D, off + pm * 4, none⟩ = some (.int .i64 x.no) ∧ w'.cell? ⟨D, off + pm * 4 + 1, none⟩ = some (.int .i64 x.tg) ∧ w'.cell? ⟨D, off + pm * 4 + 2, none⟩ = some (.int .i64 x.r.sv) ∧ w'.cell? ⟨D, off + pm * 4 + 3, none⟩ = some (.string x.r.lt) ∧ w'.cell? ⟨D, off + m * 4, none⟩ = some (.int .i64 y.no) ∧ w'.cell? ⟨D, off + m * 4 + 1, none⟩ = some (.int .i64 y.tg) ∧ w'.cell? ⟨D, off + m * 4 + 2, none⟩ = some (.int .i64 y.r.sv) ∧ w'.cell? ⟨D, off + m * 4 + 3, none⟩ = some (.string y.r.lt)) (first | (with_reducible exact ⟨x0, x1, x2, x3, y0, y1, y2, y3⟩) | (with_reducible exact ⟨s0, s1, s2, s3, r0, r1, r2, r3⟩) | go_keep) ((go_at_call 78; refine (HL.out _).mono ?_; rintro e w9 ⟨rfl, hb9⟩; have R9 := Lib.hid (HR'.out.drew.below hb9); obtain ⟨s0, s1, s2, s3⟩ := R9.out.at HXq.out; obtain ⟨r0, r1, r2, r3⟩ := R9.out.at HYq.out; have G9 := Lib.hid (HG.out.drew.below hb9); clear hb9))
        clear x0 x1 x2 x3 y0 y1 y2 y3
        go_wp2
        go_roundw
        case rel =>
          refine ⟨m + 1, j, by omega, by omega, hj, by go_num, rfl, R9, G9, fun k h hk => ?_, HHi⟩
          have hx' : tLt (U[m - pa]'HMV.out) v := by
            have h1 := (nlt_key HTG.out).2 (by rw [← HX.out]; omega)
            rw [HY.out] at h1
            exact h1
          exact sd_le HU.out HMV.out (by omega) hx'
        case measure => simp [intOf]; omega
    · obtain rfl : i = j := by omega
      have hnl : ¬ (i : Int) < (i : Int) := by omega
      obtain ⟨U1, U2, e, hl1, h1, h2⟩ := part_at (V := U) (u := v) (k := i - pa) (by have h2 := HPU.out; have h3 := HPM.out; omega) HLo.out HHi.out
      have HSO : Hid (so (U ++ [v]) = U1 ++ v :: U2) := by
        show _ = _
        rw [e]
        exact so_into2 (by rw [← e]; exact HU.out) h1 h2
      have HL1 : Hid (pa + U1.length = i ∧ pm = i + U2.length) := by
        show _ ∧ _
        have h3 := HPM.out
        have h4 := HPU.out
        rw [e, List.length_append] at h4
        omega
      have H1 : Hid (∃ A B, U2 = A ++ B ∧ i + A.length = pm ∧ RowC wr D off (P ++ (U1 ++ (A ++ (v :: (B ++ S)))))) := ⟨U2, [], by simp, by have := HL1.out; omega, by have := HR'.out; rw [e] at this; simpa using this⟩
      clear e hl1 h1 h2 HLo HHi
      obtain ⟨wo, rfl⟩ : ∃ wo : World, wo = wr := ⟨_, rfl⟩
      go_wp2
      go_loopw [17] (fun k wr => ∃ k' : Nat, i ≤ k' ∧ k' ≤ pm ∧ k = .int .i64 k' ∧ Hid (∃ A B, U2 = A ++ B ∧ i + A.length = k' ∧ RowC wr D off (P ++ (U1 ++ (A ++ (v :: (B ++ S)))))) ∧ Hid (GW D w wr)) (fun k _ => (intOf k).toNat)
      case atStart => exact ⟨pm, hj, Nat.le_refl _, rfl, H1, HG⟩
      case round =>
        obtain ⟨k, hk1, hk2, rfl, HX, HGk⟩ := hrel
        clear H1
        obtain ⟨A, B, e1, e2, e3⟩ := HX.out
        have E1 := Lib.hid e1
        have E2 := Lib.hid e2
        have E3 := Lib.hid e3
        clear HX
        by_cases hlt : i < k
        · have hlti : (i : Int) < (k : Int) := by omega
          obtain ⟨A', y, hA'⟩ : ∃ A' y, A = A' ++ [y] := by
            rcases List.eq_nil_or_concat A with e | ⟨A', y, e⟩
            · exact absurd hlt (by rw [e] at e2; simp at e2; omega)
            · exact ⟨A', y, by rw [e, List.concat_eq_append]⟩
          subst hA'
          have el : P ++ (U1 ++ (A' ++ [y] ++ (v :: (B ++ S)))) = (P ++ (U1 ++ A')) ++ y :: v :: (B ++ S) := by simp
          have el2 : k = (P ++ (U1 ++ A')).length + 1 := by
            simp only [List.length_append, List.length_singleton] at e2 ⊢
            have h1 := HL1.out; have h2 := HPA.out; omega
          have hv? : (P ++ (U1 ++ (A' ++ [y] ++ (v :: (B ++ S)))))[k]? = some v := by
            rw [el, el2, List.getElem?_append_right (by omega), Nat.add_sub_cancel_left]; rfl
          have hy? : (P ++ (U1 ++ (A' ++ [y] ++ (v :: (B ++ S)))))[k - 1]? = some y := by
            rw [el, el2]; simp
          obtain ⟨x0, x1, x2, x3⟩ := e3.at hv?
          obtain ⟨y0, y1, y2, y3⟩ := e3.at hy?
          have HXq := Lib.hid hv?
          have HYq := Lib.hid hy?
          have EL := Lib.hid el
          have EL2 := Lib.hid el2
          have fz := e3.2.1
          have hkn : (k : Int) < (n : Int) := by omega
          have t2 : (0 : Int) ≤ (k : Int) - 1 := by omega
          have t3 : (k : Int) - 1 < (n : Int) := by omega
          have t4 : ((k : Int) - 1).toNat = k - 1 := by omega
          clear e1 e2 e3 hv? hy? el el2
          go_wp2
          go_region
          go_wp2
          go_roundw
          case rel =>
            refine ⟨k - 1, by omega, by omega, by rw [show ((k - 1 : Nat) : Int) = (k : Int) - 1 by omega], ⟨A', y :: B, by rw [E1.out]; simp, by have := E2.out; rw [List.length_append, List.length_singleton] at this; omega, ?_⟩, HGk.out.swap _ _ v y⟩
            have h1 := E3.out.swap HXq.out HYq.out
            have e4 : swp (P ++ (U1 ++ (A' ++ [y] ++ (v :: (B ++ S))))) k (k - 1) = P ++ (U1 ++ (A' ++ (v :: (y :: B ++ S)))) := by
              rw [swp_sym, EL.out, EL2.out, Nat.add_sub_cancel, swp_adj]; simp
            rw [e4] at h1
            exact h1
          case measure => simp [intOf]; omega
        · have hge : ¬ (i : Int) < (k : Int) := by omega
          have hA0 : A = [] := List.length_eq_zero_iff.1 (by omega)
          subst hA0
          have HF : Hid (RowC wr D off (P ++ (so (U ++ [v]) ++ S))) := by
            show RowC wr D off _
            rw [HSO.out, E1.out]
            have := E3.out
            simpa using this
          clear e1 e2 e3
          go_wp2
          refine bodyPost_ret (results_none rfl _ _ _) rfl ?_
          exact ⟨rfl, HF.out, HGk.out⟩
end Go.Proofs.YtdpbedkppomffaaDoor
