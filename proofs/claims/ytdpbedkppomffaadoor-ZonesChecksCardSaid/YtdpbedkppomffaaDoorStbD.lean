/-
  slices.swapRangeCmpFunc and rotateCmpFunc over turns.
-/
import Derived.Test.YtdpbedkppomffaaDoorStbC
namespace Go.Proofs.YtdpbedkppomffaaDoor
set_option linter.unusedVariables false
set_option linter.unusedSimpArgs false
open Go.ChangeShapes Go.WideShapes Go.ChangeAt Go.RowKit

theorem swr_step {P U1 U2 M V1 V2 S : List Trn} {x y : Trn} {a b j k : Nat} (ha : a = P.length) (hk : k = U1.length + 1 + U2.length) (hj : j = U1.length) (hV : V1.length = U1.length) (hb : b = a + k + M.length) :
    (P ++ (V1 ++ ((x :: U2) ++ (M ++ (U1 ++ ((y :: V2) ++ S))))))[a + j]? = some x ∧ (P ++ (V1 ++ ((x :: U2) ++ (M ++ (U1 ++ ((y :: V2) ++ S))))))[b + j]? = some y ∧
    swp (P ++ (V1 ++ ((x :: U2) ++ (M ++ (U1 ++ ((y :: V2) ++ S)))))) (a + j) (b + j) = P ++ ((V1 ++ [y]) ++ (U2 ++ (M ++ ((U1 ++ [x]) ++ (V2 ++ S))))) := by
  have e : P ++ (V1 ++ ((x :: U2) ++ (M ++ (U1 ++ ((y :: V2) ++ S))))) = (P ++ V1) ++ x :: ((U2 ++ (M ++ U1)) ++ y :: (V2 ++ S)) := by simp
  have e1 : a + j = (P ++ V1).length := by rw [List.length_append]; omega
  have e2 : b + j = (P ++ V1).length + 1 + (U2 ++ (M ++ U1)).length := by simp only [List.length_append]; omega
  rw [e, e1, e2]
  refine ⟨by simp, ?_, ?_⟩
  · rw [List.getElem?_append_right (by omega), show (P ++ V1).length + 1 + (U2 ++ (M ++ U1)).length - (P ++ V1).length = (U2 ++ (M ++ U1)).length + 1 by omega, List.getElem?_cons_succ]
    simp
  · rw [swp_mid]
    simp
set_option maxHeartbeats 4000000 in
set_option maxRecDepth 100000 in
theorem swapRange_any (D off n cap : Nat) (P U M V S : List Trn) (a b k : Int) (f : Value) (w : World) (h : RowC w D off (P ++ (U ++ (M ++ (V ++ S))))) (hn : n = (P ++ (U ++ (M ++ (V ++ S)))).length) (ha : a = (P.length : Int)) (hk : k = (U.length : Int)) (hV : V.length = U.length) (hb : b = (P.length : Int) + U.length + M.length) (hn8 : n ≤ 100000) :
    Calls Tryd.prog 169 #[.slice (some ⟨D, off, none⟩) n cap, .int .i64 a, .int .i64 b, .int .i64 k, f] w fun e w' => e = .returned (.tuple #[]) ∧ RowC w' D off (P ++ (V ++ (M ++ (U ++ S)))) ∧ GW D w w' := by
  obtain ⟨pa, hpa⟩ : ∃ pa : Nat, pa = P.length := ⟨_, rfl⟩
  obtain ⟨pk, hpk⟩ : ∃ pk : Nat, pk = U.length := ⟨_, rfl⟩
  obtain ⟨pb, hpb⟩ : ∃ pb : Nat, pb = pa + pk + M.length := ⟨_, rfl⟩
  have ea : a = (pa : Int) := by omega
  have ek : k = (pk : Int) := by omega
  have eb : b = (pb : Int) := by omega
  have hbn : pb + pk ≤ n := by rw [hn]; simp only [List.length_append]; omega
  have hab : pa + pk ≤ pb := by omega
  subst ea ek eb
  have HR := Lib.hid h
  have HN := Lib.hid hn
  have HPA := Lib.hid hpa
  have HPK := Lib.hid hpk
  have HPB := Lib.hid hpb
  have HVL := Lib.hid hV
  clear h hn ha hk hV hb hpa hpk hpb
  go_enter Tryd.func169, Tryd.ntmps169
  go_wp2
  go_loopw [10] (fun i wr => ∃ (j : Nat) (U1 U2 V1 V2 : List Trn), j ≤ pk ∧ i = .int .i64 j ∧ Hid (U = U1 ++ U2 ∧ V = V1 ++ V2 ∧ U1.length = j ∧ V1.length = j) ∧ Hid (RowC wr D off (P ++ (V1 ++ (U2 ++ (M ++ (U1 ++ (V2 ++ S))))))) ∧ Hid (GW D w wr)) (fun i _ => (pk - intOf i).toNat)
  case atStart => exact ⟨0, [], U, [], V, Nat.zero_le _, rfl, ⟨rfl, rfl, rfl, rfl⟩, HR, GW.refl D w⟩
  case round =>
    obtain ⟨j, U1, U2, V1, V2, hj, rfl, HU, HR', HG⟩ := hrel
    by_cases hlt : j < pk
    · have hlti : (j : Int) < (pk : Int) := by omega
      rcases U2 with _ | ⟨x, U2⟩
      · exact absurd hlt (by have h1 := HU.out; have h2 := HPK.out; rw [h1.1, List.append_nil] at h2; omega)
      rcases V2 with _ | ⟨y, V2⟩
      · exact absurd hlt (by have h1 := HU.out; have h2 := HPK.out; have h3 := HVL.out; rw [h1.2.1, List.append_nil] at h3; omega)
      have HS := Lib.hid (swr_step (P := P) (U1 := U1) (U2 := U2) (M := M) (V1 := V1) (V2 := V2) (S := S) (x := x) (y := y) (a := pa) (b := pb) (j := j) (k := pk) HPA.out (by have h1 := HU.out; have h2 := HPK.out; rw [h1.1] at h2; simp at h2; omega) (by have h1 := HU.out; omega) (by have h1 := HU.out; omega) HPB.out)
      obtain ⟨x0, x1, x2, x3⟩ := HR'.out.at HS.out.1
      obtain ⟨y0, y1, y2, y3⟩ := HR'.out.at HS.out.2.1
      have fz := HR'.out.2.1
      go_wp2
      go_region
      go_wp2
      go_roundw
      case rel =>
        refine ⟨j + 1, U1 ++ [x], U2, V1 ++ [y], V2, by omega, by go_num, ?_, ?_, ?_⟩
        · have h1 := HU.out
          refine Lib.hid ⟨by rw [h1.1]; simp, by rw [h1.2.1]; simp, by simp; omega, by simp; omega⟩
        · have := HR'.out.swap HS.out.1 HS.out.2.1
          rw [HS.out.2.2] at this
          exact this
        · exact HG.out.swap _ _ x y
      case measure => simp [intOf]; omega
    · have h1 := HU.out
      have hz : U2 = [] ∧ V2 = [] := by
        have h2 := HPK.out
        have h3 := HVL.out
        rw [h1.1, List.length_append] at h2
        rw [h1.2.1, h1.1, List.length_append, List.length_append] at h3
        exact ⟨List.length_eq_zero_iff.1 (by omega), List.length_eq_zero_iff.1 (by omega)⟩
      obtain ⟨rfl, rfl⟩ := hz
      have HF : Hid (RowC wr D off (P ++ (V ++ (M ++ (U ++ S))))) := by
        have h2 := HR'.out
        show RowC wr D off (P ++ (V ++ (M ++ (U ++ S))))
        rw [h1.1, h1.2.1]
        simpa using h2
      clear h1
      go_wp2
      go_end0
      exact ⟨rfl, HF.out, HG.out⟩
set_option maxHeartbeats 4000000 in
set_option maxRecDepth 100000 in
theorem rotate_any (D off n cap : Nat) (P U V S : List Trn) (a m b : Int) (f : Value) (w : World) (h : RowC w D off (P ++ (U ++ (V ++ S)))) (hn : n = (P ++ (U ++ (V ++ S))).length) (ha : a = (P.length : Int)) (hm : m = (P.length : Int) + U.length) (hb : b = (P.length : Int) + U.length + V.length) (hU : 0 < U.length) (hV : 0 < V.length) (hn8 : n ≤ 100000) :
    Calls Tryd.prog 163 #[.slice (some ⟨D, off, none⟩) n cap, .int .i64 a, .int .i64 m, .int .i64 b, f] w fun e w' => e = .returned (.tuple #[]) ∧ RowC w' D off (P ++ (V ++ (U ++ S))) ∧ GW D w w' := by
  obtain ⟨pa, hpa⟩ : ∃ pa : Nat, pa = P.length := ⟨_, rfl⟩
  obtain ⟨pi, hpi⟩ : ∃ pi : Nat, pi = U.length := ⟨_, rfl⟩
  obtain ⟨pj, hpj⟩ : ∃ pj : Nat, pj = V.length := ⟨_, rfl⟩
  obtain ⟨m0, hm0⟩ : ∃ m0 : Nat, m0 = pa + pi := ⟨_, rfl⟩
  obtain ⟨b0, hb0⟩ : ∃ b0 : Nat, b0 = m0 + pj := ⟨_, rfl⟩
  have ea : a = (pa : Int) := by omega
  have em : m = (m0 : Int) := by omega
  have eb : b = (b0 : Int) := by omega
  have hbn : b0 ≤ n := by rw [hn]; simp only [List.length_append]; omega
  subst ea em eb
  have e1 : (m0 : Int) - (pa : Int) = (pi : Int) := by omega
  have e2 : (b0 : Int) - (m0 : Int) = (pj : Int) := by omega
  have HN := Lib.hid hn
  have H0 : Hid (∃ X U' V' Y : List Trn, U'.length = pi ∧ V'.length = pj ∧ V ++ U = X ++ ((V' ++ U') ++ Y) ∧ P.length + X.length + U'.length = m0 ∧ RowC w D off ((P ++ X) ++ (U' ++ (V' ++ (Y ++ S))))) :=
    ⟨[], U, V, [], hpi.symm, hpj.symm, by simp, by simp; omega, by simpa using h⟩
  have hp1 : 0 < pi := by omega
  have hp2 : 0 < pj := by omega
  have hi8 : pi ≤ m0 := by omega
  have hj8 : m0 + pj ≤ n := by omega
  clear h hn ha hm hb hpa hpi hpj hU hV hm0 hb0 hbn
  go_enter Tryd.func163, Tryd.ntmps163
  go_wp2
  clear e1 e2
  go_loopw [10, 11] (fun i j wr => ∃ (i' j' : Nat), 0 < i' ∧ 0 < j' ∧ i' ≤ m0 ∧ m0 + j' ≤ n ∧ i = .int .i64 i' ∧ j = .int .i64 j' ∧ Hid (∃ X U' V' Y : List Trn, U'.length = i' ∧ V'.length = j' ∧ V ++ U = X ++ ((V' ++ U') ++ Y) ∧ P.length + X.length + U'.length = m0 ∧ RowC wr D off ((P ++ X) ++ (U' ++ (V' ++ (Y ++ S))))) ∧ Hid (GW D w wr)) (fun i j _ => (intOf i + intOf j).toNat)
  case atStart => exact ⟨pi, pj, hp1, hp2, hi8, hj8, rfl, rfl, H0, GW.refl D w⟩
  case round =>
    obtain ⟨i', j', hi0, hj0, hi8, hj8, rfl, rfl, HX, HG⟩ := hrel
    clear H0
    obtain ⟨X, U', V', Y, q1, q2, q3, q4, q5⟩ := HX.out
    have Q3 := Lib.hid q3
    have Q5 := Lib.hid q5
    have hnl : n = ((P ++ X) ++ (U' ++ (V' ++ (Y ++ S)))).length := by
      have h3 := congrArg List.length q3
      have h4 := HN.out
      simp only [List.length_append] at h3 h4 ⊢
      omega
    have HNL := Lib.hid hnl
    have q6 : (P ++ X).length + U'.length = m0 := by rw [List.length_append]; omega
    have q7 : ((P ++ X).length : Int) = (m0 : Int) - (i' : Int) := by omega
    have Q1 := Lib.hid q1
    have Q2 := Lib.hid q2
    have Q6 := Lib.hid q6
    have Q7 := Lib.hid q7
    clear q1 q2 q3 q4 q5 hnl q6 q7
    by_cases hne : i' = j'
    · subst hne
      go_wp2_with fail
      refine (swapRange_any D off n cap (P ++ X) U' [] V' (Y ++ S) _ _ _ f wr Q5.out HNL.out Q7.out.symm (by have := Q1.out; omega) (by have := Q1.out; have := Q2.out; omega) (by have := Q6.out; rw [List.length_nil]; omega) hn8).mono ?_
      rintro e w' ⟨rfl, hr, hg⟩
      have HR := Lib.hid hr
      have HG2 := Lib.hid (HG.out.trans hg)
      clear hr hg
      go_wp2
      go_end0
      refine ⟨rfl, ?_, HG2.out⟩
      have hr := HR.out
      have h3 : V ++ (U ++ S) = X ++ (V' ++ (U' ++ (Y ++ S))) := by rw [← List.append_assoc, Q3.out]; simp
      rw [h3]
      simpa using hr
    · have hne' : ((i' : Int) == (j' : Int)) = false := by rw [beq_eq_false_iff_ne]; omega
      by_cases hgt : j' < i'
      · have hgti : (j' : Int) < (i' : Int) := by omega
        obtain ⟨U1, U2, rfl, hU1⟩ : ∃ U1 U2, U' = U1 ++ U2 ∧ U1.length = j' := ⟨U'.take j', U'.drop j', (List.take_append_drop _ _).symm, by rw [List.length_take]; have := Q1.out; omega⟩
        have HU1 := Lib.hid hU1
        have HU2 : Hid (U2.length = i' - j') := by
          show _ = _
          have := Q1.out
          rw [List.length_append] at this
          omega
        have Q5' : Hid (RowC wr D off ((P ++ X) ++ (U1 ++ (U2 ++ (V' ++ (Y ++ S)))))) := by
          have := Q5.out
          rw [List.append_assoc U1 U2] at this
          exact this
        have HNL' : Hid (n = ((P ++ X) ++ (U1 ++ (U2 ++ (V' ++ (Y ++ S))))).length) := by
          have := HNL.out
          rw [List.append_assoc U1 U2] at this
          exact this
        obtain ⟨d, hd⟩ : ∃ d : Nat, d = i' - j' := ⟨_, rfl⟩
        have hdi : (i' : Int) - (j' : Int) = (d : Int) := by omega
        have HD := Lib.hid hd
        have hd0 : 0 < d := by omega
        have hd8 : d ≤ m0 := by omega
        clear hU1 hd hne
        go_wp2_with fail
        refine (swapRange_any D off n cap (P ++ X) U1 U2 V' (Y ++ S) _ _ _ f wr Q5'.out HNL'.out Q7.out.symm (by have := HU1.out; omega) (by have := HU1.out; have := Q2.out; omega) (by have h6 := Q6.out; have h1 := HU1.out; have h2 := HU2.out; have h3 : (U1 ++ U2).length = U1.length + U2.length := List.length_append; omega) hn8).mono ?_
        rintro e w' ⟨rfl, hr, hg⟩
        have HR := Lib.hid hr
        have HG2 := Lib.hid (HG.out.trans hg)
        clear hr hg
        go_wp2
        go_roundw
        case rel =>
          refine ⟨d, j', hd0, hj0, hd8, hj8, rfl, rfl, ⟨X ++ V', U2, U1, Y, by have := HU2.out; have := HD.out; omega, HU1.out, ?_, ?_, ?_⟩, HG2⟩
          · rw [Q3.out]; simp
          · have h1 := HU1.out; have h2 := Q2.out; have h3 := Q6.out; simp only [List.length_append] at h3 ⊢; omega
          · have := HR.out; simpa using this
        case measure => simp [intOf]; have := HD.out; omega
      · have hgti : ¬ (j' : Int) < (i' : Int) := by omega
        obtain ⟨d, hd⟩ : ∃ d : Nat, d = j' - i' := ⟨_, rfl⟩
        have hdi : (j' : Int) - (i' : Int) = (d : Int) := by omega
        obtain ⟨V1, V2, rfl, hV1⟩ : ∃ V1 V2, V' = V1 ++ V2 ∧ V1.length = d := ⟨V'.take d, V'.drop d, (List.take_append_drop _ _).symm, by rw [List.length_take]; have := Q2.out; omega⟩
        have HV1 := Lib.hid hV1
        have HV2 : Hid (V2.length = i') := by
          show _ = _
          have := Q2.out
          rw [List.length_append] at this
          omega
        have Q5' : Hid (RowC wr D off ((P ++ X) ++ (U' ++ (V1 ++ (V2 ++ (Y ++ S)))))) := by
          have := Q5.out
          rw [List.append_assoc V1 V2] at this
          exact this
        have HNL' : Hid (n = ((P ++ X) ++ (U' ++ (V1 ++ (V2 ++ (Y ++ S))))).length) := by
          have := HNL.out
          rw [List.append_assoc V1 V2] at this
          exact this
        have HD := Lib.hid hd
        have hd0 : 0 < d := by omega
        have hd8 : m0 + d ≤ n := by omega
        clear hV1 hd hne
        go_wp2_with fail
        refine (swapRange_any D off n cap (P ++ X) U' V1 V2 (Y ++ S) _ _ _ f wr Q5'.out HNL'.out Q7.out.symm (by have := Q1.out; omega) (by have := HV2.out; have := Q1.out; omega) (by have := Q6.out; have := HV1.out; have := Q1.out; have := HD.out; omega) hn8).mono ?_
        rintro e w' ⟨rfl, hr, hg⟩
        have HR := Lib.hid hr
        have HG2 := Lib.hid (HG.out.trans hg)
        clear hr hg
        go_wp2
        go_roundw
        case rel =>
          refine ⟨i', d, hi0, hd0, hi8, hd8, rfl, rfl, ⟨X, V2, V1, U' ++ Y, HV2.out, HV1.out, ?_, ?_, ?_⟩, HG2⟩
          · rw [Q3.out]; simp
          · have h1 := HV2.out; have h2 := Q1.out; have h3 := Q6.out; simp only [List.length_append] at h3 ⊢; omega
          · have := HR.out; simpa using this
        case measure => simp [intOf]; have := HD.out; omega
end Go.Proofs.YtdpbedkppomffaaDoor
