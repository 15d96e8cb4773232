/-
  slices.symMergeCmpFunc over turns: halves of more than one.
-/
import Derived.Test.YtdpbedkppomffaaDoorStbF
import Derived.Deep.DeepCutAuto
namespace Go.Proofs.YtdpbedkppomffaaDoor
set_option linter.unusedVariables false
set_option linter.unusedSimpArgs false
open Go.ChangeShapes Go.WideShapes Go.ChangeAt Go.RowKit

/-- all up to one are ahead of all from another one on. -/
theorem lo_cross {U V : List Trn} (hU : Sd U) (hV : Sd V) {i j : Nat} {x y : Trn} (hx : U[i]? = some x) (hy : V[j]? = some y) (h : tLt x y) : Lo (U.take (i + 1)) (V.drop j) := by
  obtain ⟨hi, rfl⟩ := List.getElem?_eq_some_iff.1 hx
  obtain ⟨hj, rfl⟩ := List.getElem?_eq_some_iff.1 hy
  intro a ha b hb
  obtain ⟨k, hk, rfl⟩ := List.mem_iff_getElem.1 ha
  obtain ⟨l, hl, rfl⟩ := List.mem_iff_getElem.1 hb
  rw [List.length_take] at hk
  rw [List.length_drop] at hl
  rw [List.getElem_take, List.getElem_drop]
  exact sd_ge hV (by omega) (by omega) (sd_le hU hi (by omega) h)
theorem lo_nil_l (V : List Trn) : Lo [] V := fun _ h => by cases h
theorem lo_nil_r (V : List Trn) : Lo V [] := fun _ _ _ h => by cases h
/-- what a search by halves has found, of halves that are told apart. -/
structure SymF (U V : List Trn) (pa pm pb mid s0 r0 s r : Nat) : Prop where
  ord : s0 ≤ s ∧ s ≤ r ∧ r ≤ r0
  lo : s = s0 ∨ ∃ x y, U[s - 1 - pa]? = some x ∧ V[mid - s]? = some y ∧ tLt x y
  hi : r = r0 ∨ ∃ x y, U[r - pa]? = some x ∧ V[mid - r - 1]? = some y ∧ tLt y x
theorem SymF.parts {U V : List Trn} {pa pm pb mid s0 r0 s : Nat} (h : SymF U V pa pm pb mid s0 r0 s s) (hm : pm = pa + U.length) (hb : pb = pm + V.length) (hmid : mid = (pa + pb) / 2) (hU : Sd U) (hV : Sd V)
    (h0 : (mid < pm ∧ s0 + pb = mid + pm ∧ r0 = mid) ∨ (pm ≤ mid ∧ s0 = pa ∧ r0 = pm)) :
    ∃ U1 U2 V1 V2, U = U1 ++ U2 ∧ V = V1 ++ V2 ∧ pa + U1.length = s ∧ s + V1.length = mid ∧ Lo U1 V2 ∧ Lo V1 U2 := by
  obtain ⟨⟨o1, o2, o3⟩, hlo, hhi⟩ := h
  refine ⟨U.take (s - pa), U.drop (s - pa), V.take (mid - s), V.drop (mid - s), (List.take_append_drop _ _).symm, (List.take_append_drop _ _).symm, by rw [List.length_take]; omega, by rw [List.length_take]; omega, ?_, ?_⟩
  · rcases hlo with e | ⟨x, y, hx, hy, hxy⟩
    · rcases h0 with ⟨c1, c2, c3⟩ | ⟨c1, c2, c3⟩
      · rw [List.drop_of_length_le (by omega)]; exact lo_nil_r _
      · rw [show s - pa = 0 by omega]; exact lo_nil_l _
    · rcases Nat.eq_or_lt_of_le (show pa ≤ s by omega) with e | e
      · rw [show s - pa = 0 by omega]; exact lo_nil_l _
      · have := lo_cross hU hV hx hy hxy
        rw [show s - 1 - pa + 1 = s - pa by omega] at this
        exact this
  · rcases hhi with e | ⟨x, y, hx, hy, hxy⟩
    · rcases h0 with ⟨c1, c2, c3⟩ | ⟨c1, c2, c3⟩
      · rw [show mid - s = 0 by omega]; exact lo_nil_l _
      · rw [List.drop_of_length_le (by omega)]; exact lo_nil_r _
    · rcases Nat.eq_zero_or_pos (mid - s) with e | e
      · rw [e]; exact lo_nil_l _
      · have := lo_cross hV hU hy hx hxy
        rw [show mid - s - 1 + 1 = mid - s by omega] at this
        exact this
/-- what symMerge's contract asks of the lists. -/
structure SymO (P U V S : List Trn) (n : Nat) (a m b : Int) : Prop where
  hn : n = (P ++ ((U ++ V) ++ S)).length
  ha : a = (P.length : Int)
  hm : m = (P.length : Int) + U.length
  hb : b = (P.length : Int) + U.length + V.length
  u0 : 0 < U.length
  v0 : 0 < V.length
  su : Sd U
  sv : Sd V
  tu : Td U
  tv : Td V
  ah : Ah U V
  nb : NoB (U ++ V)
  n8 : n ≤ 100000
def SymC (D off n cap N : Nat) : Prop := ∀ (P U V S : List Trn) (a m b : Int) (w : World), U.length + V.length < N → SymO P U V S n a m b → RowC w D off (P ++ ((U ++ V) ++ S)) →
    Calls Tryd.prog 146 #[.slice (some ⟨D, off, none⟩) n cap, .int .i64 a, .int .i64 m, .int .i64 b, .func (.func 78) #[] #[]] w fun e w' => e = .returned (.tuple #[]) ∧ RowC w' D off (P ++ (so (U ++ V) ++ S)) ∧ GW D w w'
set_option maxHeartbeats 8000000 in
set_option maxRecDepth 100000 in
theorem sym_gen (D off n cap N : Nat) (ih : SymC D off n cap N) (P U V S : List Trn) (a m b : Int) (w : World) (hN : U.length + V.length < N + 1) (ho : SymO P U V S n a m b) (hU1 : U.length ≠ 1) (hV1 : V.length ≠ 1) (h : RowC w D off (P ++ ((U ++ V) ++ S))) :
    Calls Tryd.prog 146 #[.slice (some ⟨D, off, none⟩) n cap, .int .i64 a, .int .i64 m, .int .i64 b, .func (.func 78) #[] #[]] w fun e w' => e = .returned (.tuple #[]) ∧ RowC w' D off (P ++ (so (U ++ V) ++ S)) ∧ GW D w w' := by
  have eg := less_enters
  obtain ⟨hn, ha, hm, hb, hu0, hv0, hsu, hsv, htu, htv, hah, hnb, hn8⟩ := ho
  obtain ⟨pa, hpa⟩ : ∃ pa : Nat, pa = P.length := ⟨_, rfl⟩
  obtain ⟨pu, hpu⟩ : ∃ pu : Nat, pu = U.length := ⟨_, rfl⟩
  obtain ⟨pv, hpv⟩ : ∃ pv : Nat, pv = V.length := ⟨_, rfl⟩
  obtain ⟨pm, hpm⟩ : ∃ pm : Nat, pm = pa + pu := ⟨_, rfl⟩
  obtain ⟨pb, hpb⟩ : ∃ pb : Nat, pb = pm + pv := ⟨_, rfl⟩
  obtain ⟨mid, hmid⟩ : ∃ mid : Nat, mid = (pa + pb) / 2 := ⟨_, rfl⟩
  obtain ⟨n0, hn0⟩ : ∃ n0 : Nat, n0 = mid + pm := ⟨_, rfl⟩
  obtain ⟨s0, r0, h0⟩ : ∃ s0 r0 : Nat, (mid < pm ∧ s0 + pb = mid + pm ∧ r0 = mid) ∨ (pm ≤ mid ∧ s0 = pa ∧ r0 = pm) := by
    rcases Nat.lt_or_ge mid pm with c | c
    · exact ⟨mid + pm - pb, mid, .inl ⟨c, by omega, rfl⟩⟩
    · exact ⟨pa, pm, .inr ⟨c, rfl, rfl⟩⟩
  have ea : a = (pa : Int) := by omega
  have em : m = (pm : Int) := by omega
  have eb : b = (pb : Int) := by omega
  have hbn : pb ≤ n := by rw [hn]; simp only [List.length_append]; omega
  subst ea em eb
  have e1 : (pm : Int) - (pa : Int) = (pu : Int) := by omega
  have e1' : ((pu : Int) == 1) = false := by rw [beq_eq_false_iff_ne]; omega
  have e2 : (pb : Int) - (pm : Int) = (pv : Int) := by omega
  have e2' : ((pv : Int) == 1) = false := by rw [beq_eq_false_iff_ne]; omega
  have e3 : ((pa : Int) + (pb : Int)) / 2 = (mid : Int) := by omega
  have e4 : (mid : Int) + (pm : Int) = (n0 : Int) := by omega
  have HPA := Lib.hid hpa
  have HPU := Lib.hid hpu
  have HPV := Lib.hid hpv
  have HPM := Lib.hid hpm
  have HPB := Lib.hid hpb
  have HMID := Lib.hid hmid
  have HN0 := Lib.hid hn0
  have H0 := Lib.hid h0
  have HN := Lib.hid hn
  have HNN := Lib.hid hN
  have HU := Lib.hid hsu
  have HV := Lib.hid hsv
  have HTU := Lib.hid htu
  have HTV := Lib.hid htv
  have HAH := Lib.hid hah
  have HNB := Lib.hid hnb
  have HR := Lib.hid h
  have IH := Lib.hid ih
  have hn1 : 1 ≤ n0 := by omega
  have HPAM : Hid (pa < mid) := by show _ < _; omega
  have hsr : s0 ≤ r0 := by omega
  have hr0 : r0 ≤ mid ∧ r0 ≤ pm := by omega
  have hs0 : pa ≤ s0 := by omega
  obtain ⟨hr1, hr2⟩ := hr0
  have hma : pa ≤ mid := by omega
  have hmb : mid < pb := by omega
  have ham : pa ≤ pm := by omega
  have hpmb : pm < pb := by omega
  clear h hn ha hm hb hpa hpm hpb hpu hpv hU1 hV1 hmid hn0 h0 hN hu0 hv0 hsu hsv htu htv hah hnb ih
  go_enter Tryd.func146, Tryd.ntmps146
  go_upto_if 140 with fail
  clear e1 e1' e2 e2' e3 e4
  go_cut [20, 21] (fun s20 s21 wx => s20 = .int .i64 (s0 : Int) ∧ s21 = .int .i64 (r0 : Int) ∧ w = wx)
  case first => as_aux_lemma =>
    rcases Nat.lt_or_ge mid pm with c | c
    · have c1 : (mid : Int) < (pm : Int) := by omega
      have c2 : (n0 : Int) - (pb : Int) = (s0 : Int) := by have h1 := H0.out; have h2 := HN0.out; omega
      obtain rfl : r0 = mid := by have h1 := H0.out; omega
      go_wp2
      go_meet
      exact ⟨rfl, rfl, rfl⟩
    · have c1 : ¬ (mid : Int) < (pm : Int) := by omega
      obtain rfl : r0 = pm := by have h1 := H0.out; omega
      obtain rfl : s0 = pa := by have h1 := H0.out; omega
      go_wp2
      go_meet
      exact ⟨rfl, rfl, rfl⟩
  case rest =>
    obtain ⟨rfl, rfl, rfl⟩ := hcut
    have HS0 : Hid (SymF U V pa pm pb mid s0 r0 s0 r0) := ⟨⟨Nat.le_refl _, hsr, Nat.le_refl _⟩, .inl rfl, .inl rfl⟩
    obtain ⟨p0, hp0⟩ : ∃ p0 : Nat, p0 + 1 = n0 := ⟨n0 - 1, by omega⟩
    have ep : (n0 : Int) - 1 = (p0 : Int) := by omega
    have HP0 := Lib.hid hp0
    have hn0n : p0 ≤ 200000 := by have h1 := HN0.out; omega
    clear hp0
    go_wp2
    clear ep
    go_loopw [20, 21, 23] (fun i j _ wr => ∃ i' j' : Nat, s0 ≤ i' ∧ i' ≤ j' ∧ j' ≤ r0 ∧ i = .int .i64 i' ∧ j = .int .i64 j' ∧ Hid (RowC wr D off (P ++ ((U ++ V) ++ S))) ∧ Hid (GW D w wr) ∧ Hid (SymF U V pa pm pb mid s0 r0 i' j')) (fun i j _ _ => (intOf j - intOf i).toNat)
    case atStart => exact ⟨s0, r0, Nat.le_refl _, hsr, Nat.le_refl _, rfl, rfl, HR, GW.refl D w, HS0⟩
    case round =>
      obtain ⟨i, j, hi, hij, hj, rfl, rfl, HR', HG, HS⟩ := hrel
      clear HS0
      by_cases hlt : i < j
      · have hlti : (i : Int) < (j : Int) := by omega
        obtain ⟨c, hc, hc1, hc2⟩ := mid_bd hlt
        obtain ⟨d, hd⟩ : ∃ d : Nat, c + d = p0 := ⟨p0 - c, by have h1 := HN0.out; have h2 := HP0.out; omega⟩
        have hcd : (p0 : Int) - (c : Int) = (d : Int) := by omega
        have hcU : c - pa < U.length := by have h1 := HPU.out; have h2 := HPM.out; omega
        have hdV : mid - c - 1 < V.length := by have h1 := HPV.out; have h2 := HPB.out; have h3 := H0.out; have h4 := HMID.out; omega
        obtain ⟨y, hy⟩ : ∃ y, U[c - pa]? = some y := ⟨_, List.getElem?_eq_getElem hcU⟩
        obtain ⟨x, hx⟩ : ∃ x, V[mid - c - 1]? = some x := ⟨_, List.getElem?_eq_getElem hdV⟩
        have hy? : (P ++ ((U ++ V) ++ S))[c]? = some y := by
          have e : c = P.length + (c - pa) := by have h2 := HPA.out; omega
          rw [e, List.getElem?_append_right (by omega), Nat.add_sub_cancel_left, List.append_assoc, List.getElem?_append_left hcU, hy]
        have hx? : (P ++ ((U ++ V) ++ S))[d]? = some x := by
          have e : d = P.length + (U.length + (mid - c - 1)) := by have h1 := HPA.out; have h2 := HPU.out; have h3 := HPM.out; have h4 := HP0.out; have h5 := HN0.out; omega
          rw [e, List.getElem?_append_right (by omega), Nat.add_sub_cancel_left, List.append_assoc, List.getElem?_append_right (by omega), Nat.add_sub_cancel_left, List.getElem?_append_left hdV, hx]
        have hxm : x ∈ V := List.mem_of_getElem? hx
        have hym : y ∈ U := List.mem_of_getElem? hy
        have HXV := Lib.hid hx
        have HYU := Lib.hid hy
        have HXq := Lib.hid hx?
        have HYq := Lib.hid hy?
        have HTG := Lib.hid (HAH.out y hym x hxm)
        have HL := Lib.hid (fun w' => less_any x y w' (HNB.out x (List.mem_append_right _ hxm)) (HNB.out y (List.mem_append_left _ hym)))
        obtain ⟨x0, x1, x2, x3⟩ := HR'.out.at hx?
        obtain ⟨y0, y1, y2, y3⟩ := HR'.out.at hy?
        have t1 : IntKind.i64.wrap (d : Int) = (d : Int) := IntWalk.i64_in _ (by omega)
        have hcn : (c : Int) < (n : Int) := by omega
        have hdn : (d : Int) < (n : Int) := by have h1 := HPB.out; have h2 := HPV.out; have h3 := HN0.out; have h4 := HP0.out; have h5 := H0.out; have h6 := HMID.out; omega
        have hcdN : p0 - c = d := by omega
        clear hx hy hx? hy? hxm hym hcU hdV hd
        by_cases hcmp : x.no < y.no
        · as_aux_lemma =>
          have hl2 : decide (x.no - y.no < 0) = true := by rw [decide_eq_true_iff]; omega
          go_wp2
          go_region_held3 (fun w' => w'.cell? ⟨D, off + d * 4, none⟩ = some (.int .i64 x.no) ∧ w'.cell? ⟨D, off + d * 4 + 1, none⟩ = some (.int .i64 x.tg) ∧ w'.cell? ⟨D, off + d * 4 + 2, none⟩ = some (.int .i64 x.r.sv) ∧ w'.cell? ⟨D, off + d * 4 + 3, none⟩ = some (.string x.r.lt) ∧ w'.cell? ⟨D, off + c * 4, none⟩ = some (.int .i64 y.no) ∧ w'.cell? ⟨D, off + c * 4 + 1, none⟩ = some (.int .i64 y.tg) ∧ w'.cell? ⟨D, off + c * 4 + 2, none⟩ = some (.int .i64 y.r.sv) ∧ w'.cell? ⟨D, off + c * 4 + 3, none⟩ = some (.string y.r.lt)) (first | (with_reducible exact ⟨x0, x1, x2, x3, y0, y1, y2, y3⟩) | (with_reducible exact ⟨s0', s1, s2, s3, r0', r1, r2, r3⟩) | go_keep) ((go_at_call 78; refine (HL.out _).mono ?_; rintro e w9 ⟨rfl, hb9⟩; have R9 := Lib.hid (HR'.out.drew.below hb9); obtain ⟨s0', s1, s2, s3⟩ := R9.out.at HXq.out; obtain ⟨r0', r1, r2, r3⟩ := R9.out.at HYq.out; have G9 := Lib.hid (HG.out.drew.below hb9); clear hb9))
          clear x0 x1 x2 x3 y0 y1 y2 y3
          go_wp2
          go_roundw
          case rel =>
            have hs := HS.out
            exact ⟨i, c, hi, by omega, by omega, rfl, rfl, R9, G9, ⟨⟨hs.ord.1, hc1, by omega⟩, hs.lo, .inr ⟨y, x, HYU.out, HXV.out, (lt_key HTG.out).2 hcmp⟩⟩⟩
          case measure => simp [intOf]; omega
        · as_aux_lemma =>
          have hl2 : decide (x.no - y.no < 0) = false := by rw [decide_eq_false_iff_not]; omega
          go_wp2
          go_region_held3 (fun w' => w'.cell? ⟨D, off + d * 4, none⟩ = some (.int .i64 x.no) ∧ w'.cell? ⟨D, off + d * 4 + 1, none⟩ = some (.int .i64 x.tg) ∧ w'.cell? ⟨D, off + d * 4 + 2, none⟩ = some (.int .i64 x.r.sv) ∧ w'.cell? ⟨D, off + d * 4 + 3, none⟩ = some (.string x.r.lt) ∧ w'.cell? ⟨D, off + c * 4, none⟩ = some (.int .i64 y.no) ∧ w'.cell? ⟨D, off + c * 4 + 1, none⟩ = some (.int .i64 y.tg) ∧ w'.cell? ⟨D, off + c * 4 + 2, none⟩ = some (.int .i64 y.r.sv) ∧ w'.cell? ⟨D, off + c * 4 + 3, none⟩ = some (.string y.r.lt)) (first | (with_reducible exact ⟨x0, x1, x2, x3, y0, y1, y2, y3⟩) | (with_reducible exact ⟨s0', s1, s2, s3, r0', r1, r2, r3⟩) | go_keep) ((go_at_call 78; refine (HL.out _).mono ?_; rintro e w9 ⟨rfl, hb9⟩; have R9 := Lib.hid (HR'.out.drew.below hb9); obtain ⟨s0', s1, s2, s3⟩ := R9.out.at HXq.out; obtain ⟨r0', r1, r2, r3⟩ := R9.out.at HYq.out; have G9 := Lib.hid (HG.out.drew.below hb9); clear hb9))
          clear x0 x1 x2 x3 y0 y1 y2 y3
          go_wp2
          go_roundw
          case rel =>
            have hs := HS.out
            exact ⟨c + 1, j, by omega, by omega, hj, by go_num, rfl, R9, G9, ⟨⟨by omega, by omega, hj⟩, .inr ⟨y, x, by rw [Nat.add_sub_cancel]; exact HYU.out, by rw [show mid - (c + 1) = mid - c - 1 by omega]; exact HXV.out, (nlt_key HTG.out).2 (by omega)⟩, hs.hi⟩⟩
          case measure => simp [intOf]; omega
      · obtain rfl : i = j := by omega
        have hnl : ¬ (i : Int) < (i : Int) := by omega
        obtain ⟨U1, U2, V1, V2, hUe, hVe, hl1, hl2, hLo1, hLo2⟩ := HS.out.parts (by have h1 := HPM.out; have h2 := HPU.out; omega) (by have h1 := HPB.out; have h2 := HPV.out; omega) HMID.out HU.out HV.out H0.out
        obtain ⟨e, he⟩ : ∃ e : Nat, e + i = n0 := ⟨n0 - i, by have h1 := HN0.out; omega⟩
        have hei : (n0 : Int) - (i : Int) = (e : Int) := by omega
        obtain ⟨p1, hp1⟩ : ∃ p1 : Bool, p1 = (decide (i < pm) && decide (pm < e)) := ⟨_, rfl⟩
        obtain ⟨p2, hp2⟩ : ∃ p2 : Bool, p2 = (decide (pa < i) && decide (i < mid)) := ⟨_, rfl⟩
        obtain ⟨p3, hp3⟩ : ∃ p3 : Bool, p3 = (decide (mid < e) && decide (e < pb)) := ⟨_, rfl⟩
        have Hp1 := Lib.hid hp1
        have Hp2 := Lib.hid hp2
        have Hp3 := Lib.hid hp3
        have hlU : U.length = U1.length + U2.length := by rw [hUe, List.length_append]
        have hlV : V.length = V1.length + V2.length := by rw [hVe, List.length_append]
        -- where the parts lie
        have L1 : Hid (P.length + U1.length = i ∧ i + V1.length = mid ∧ i + U2.length = pm ∧ pm + V1.length = e ∧ mid + U2.length = e ∧ e + V2.length = pb) := by
          show _ ∧ _ ∧ _ ∧ _ ∧ _ ∧ _
          have h1 := HPA.out; have h2 := HPU.out; have h3 := HPV.out; have h4 := HPM.out; have h5 := HPB.out; have h6 := HN0.out
          omega
        have LN : Hid (n = P.length + (U1.length + U2.length + (V1.length + V2.length)) + S.length) := by
          show _ = _
          have h1 := HN.out
          rw [hUe, hVe] at h1
          simp only [List.length_append] at h1
          omega
        have LT : Hid (U1.length + U2.length + (V1.length + V2.length) < N + 1 ∧ pa < mid) := by
          show _ ∧ _
          have h1 := HNN.out; have h2 := HPAM.out
          omega
        have HSD : Hid (so (U ++ V) = so (U1 ++ V1) ++ so (U2 ++ V2)) := by
          show _ = _
          rw [hUe, hVe]
          exact sym_done (by rw [← hUe]; exact HU.out) (by rw [← hVe]; exact HV.out) (by rw [← hUe, ← hVe]; exact HAH.out) hLo1 hLo2 (by rw [← hUe]; exact HTU.out) (by rw [← hVe]; exact HTV.out)
        have HR1 : Hid (RowC wr D off (P ++ (U1 ++ (U2 ++ (V1 ++ (V2 ++ S)))))) := by
          show RowC _ _ _ _
          have := HR'.out
          rw [hUe, hVe] at this
          simpa using this
        -- what the parts' merges ask
        have HO1 : Hid (0 < U1.length → 0 < V1.length → SymO P U1 V1 (U2 ++ V2 ++ S) n (P.length : Int) ((P.length : Int) + U1.length) ((P.length : Int) + U1.length + V1.length)) := by
          show _ → _ → _
          intro q1 q2
          have hU := HU.out; have hV := HV.out; have hTU := HTU.out; have hTV := HTV.out; have hAH := HAH.out; have hNB := HNB.out; have hln := LN.out
          rw [hUe] at hU hTU hAH hNB
          rw [hVe] at hV hTV hAH hNB
          exact ⟨by simp only [List.length_append]; omega, rfl, rfl, rfl, q1, q2, (sd_app.1 hU).1, (sd_app.1 hV).1, (List.pairwise_append.1 hTU).1, (List.pairwise_append.1 hTV).1, fun x hx y hy => hAH x (List.mem_append_left _ hx) y (List.mem_append_left _ hy), fun x hx => hNB x (by rcases List.mem_append.1 hx with h | h <;> simp [h]), hn8⟩
        have HO2 : Hid (0 < U2.length → 0 < V2.length → SymO (P ++ so (U1 ++ V1)) U2 V2 S n ((P ++ so (U1 ++ V1)).length : Int) (((P ++ so (U1 ++ V1)).length : Int) + U2.length) (((P ++ so (U1 ++ V1)).length : Int) + U2.length + V2.length)) := by
          show _ → _ → _
          intro q1 q2
          have hU := HU.out; have hV := HV.out; have hTU := HTU.out; have hTV := HTV.out; have hAH := HAH.out; have hNB := HNB.out; have hln := LN.out
          rw [hUe] at hU hTU hAH hNB
          rw [hVe] at hV hTV hAH hNB
          exact ⟨by simp only [List.length_append, so_len]; omega, rfl, rfl, rfl, q1, q2, (sd_app.1 hU).2.1, (sd_app.1 hV).2.1, (List.pairwise_append.1 hTU).2.1, (List.pairwise_append.1 hTV).2.1, fun x hx y hy => hAH x (List.mem_append_right _ hx) y (List.mem_append_right _ hy), fun x hx => hNB x (by rcases List.mem_append.1 hx with h | h <;> simp [h]), hn8⟩
        have HS1 : Hid (U1.length = 0 ∨ V1.length = 0 → so (U1 ++ V1) = U1 ++ V1) := by
          show _ → _
          have hU := HU.out; have hV := HV.out
          rw [hUe] at hU
          rw [hVe] at hV
          rintro (q | q)
          · rw [List.length_eq_zero_iff.1 q]; exact so_self (sd_app.1 hV).1
          · rw [List.length_eq_zero_iff.1 q, List.append_nil]; exact so_self (sd_app.1 hU).1
        have HS2 : Hid (U2.length = 0 ∨ V2.length = 0 → so (U2 ++ V2) = U2 ++ V2) := by
          show _ → _
          have hU := HU.out; have hV := HV.out
          rw [hUe] at hU
          rw [hVe] at hV
          rintro (q | q)
          · rw [List.length_eq_zero_iff.1 q]; exact so_self (sd_app.1 hV).2.1
          · rw [List.length_eq_zero_iff.1 q, List.append_nil]; exact so_self (sd_app.1 hU).2.1
        have hen : e ≤ n := by have := L1.out; omega
        clear hp1 hp2 hp3 hUe hVe hl1 hl2 hLo1 hLo2 hlU hlV he hi hij hj HS HR' hnl
        obtain ⟨wo, rfl⟩ : ∃ wo : World, wo = wr := ⟨_, rfl⟩
        go_upto_region 39 with fail
        go_cut [185] (fun c wx => c = .bool p1 ∧ wo = wx)
        case first => as_aux_lemma =>
          rcases Nat.lt_or_ge i pm with c1 | c1
          · have d1 : ((i : Nat) : Int) < ((pm : Nat) : Int) := by omega
            rcases Nat.lt_or_ge pm e with c2 | c2
            · have d2 : ((pm : Nat) : Int) < ((e : Nat) : Int) := by omega
              have hp0 : p1 = true := by rw [Hp1.out, decide_eq_true c1, decide_eq_true c2]; rfl
              subst hp0
              go_wp2
              go_meet
              exact ⟨rfl, rfl⟩
            · have d2 : ¬ ((pm : Nat) : Int) < ((e : Nat) : Int) := by omega
              have hp0 : p1 = false := by rw [Hp1.out, decide_eq_false (show ¬ pm < e by omega), Bool.and_false]
              subst hp0
              go_wp2
              go_meet
              exact ⟨rfl, rfl⟩
          · have d1 : ¬ ((i : Nat) : Int) < ((pm : Nat) : Int) := by omega
            have hp0 : p1 = false := by rw [Hp1.out, decide_eq_false (show ¬ i < pm by omega), Bool.false_and]
            subst hp0
            go_wp2
            go_meet
            exact ⟨rfl, rfl⟩
        case rest =>
          obtain ⟨rfl, rfl⟩ := hcut
          go_upto_if 185 with fail
          go_cut [] (fun wx => Hid (RowC wx D off (P ++ ((U1 ++ V1) ++ ((U2 ++ V2) ++ S)))) ∧ Hid (GW D w wx))
          case first => as_aux_lemma =>
            cases p1 with
            | true =>
              have hq : i < pm ∧ pm < e := by
                have := Hp1.out.symm
                rw [Bool.and_eq_true, decide_eq_true_iff, decide_eq_true_iff] at this
                exact this
              have ha1 : (i : Int) = ((P ++ U1).length : Int) := by have := L1.out; rw [List.length_append]; omega
              have hR : Hid (RowC wo D off ((P ++ U1) ++ (U2 ++ (V1 ++ (V2 ++ S))))) := by
                have := HR1.out
                show RowC _ _ _ _
                rw [List.append_assoc]
                exact this
              have hQ := Lib.hid hq
              have HA1 := Lib.hid ha1
              clear hq ha1
              go_wp2_with fail
              refine (rotate_any D off n cap (P ++ U1) U2 V1 (V2 ++ S) _ _ _ _ wo hR.out (by have := LN.out; simp only [List.length_append]; omega) HA1.out (by have h1 := L1.out; have h2 := HA1.out; omega) (by have h1 := L1.out; have h2 := HA1.out; omega) (by have h1 := L1.out; have h2 := hQ.out; omega) (by have h1 := L1.out; have h2 := hQ.out; omega) hn8).mono ?_
              rintro r w1 ⟨rfl, hr, hg⟩
              have R1 : Hid (RowC w1 D off (P ++ ((U1 ++ V1) ++ ((U2 ++ V2) ++ S)))) := by
                show RowC _ _ _ _
                have := hr
                simp only [List.append_assoc] at this ⊢
                exact this
              have G1 := Lib.hid (HG.out.trans hg)
              clear hr hg
              go_wp2
              go_meet
              exact ⟨R1, G1⟩
            | false =>
              have hq : U2 = [] ∨ V1 = [] := by
                have h1 := Hp1.out.symm
                have h2 := L1.out
                rw [Bool.and_eq_false_iff, decide_eq_false_iff_not, decide_eq_false_iff_not] at h1
                rcases h1 with h1 | h1
                · exact .inl (List.length_eq_zero_iff.1 (by omega))
                · exact .inr (List.length_eq_zero_iff.1 (by omega))
              have R1 : Hid (RowC wo D off (P ++ ((U1 ++ V1) ++ ((U2 ++ V2) ++ S)))) := by
                show RowC _ _ _ _
                have := HR1.out
                rcases hq with rfl | rfl
                · simpa using this
                · simpa using this
              clear hq
              go_wp2
              go_meet
              exact ⟨R1, HG⟩
          case rest =>
            obtain ⟨R1, G1⟩ := hcut
            obtain ⟨w1, rfl⟩ : ∃ w1 : World, w1 = wc := ⟨_, rfl⟩
            go_upto_region 41 with fail
            go_cut [199] (fun c wx => c = .bool p2 ∧ w1 = wx)
            case first => as_aux_lemma =>
              rcases Nat.lt_or_ge pa i with c1 | c1
              · have d1 : ((pa : Nat) : Int) < ((i : Nat) : Int) := by omega
                rcases Nat.lt_or_ge i mid with c2 | c2
                · have d2 : ((i : Nat) : Int) < ((mid : Nat) : Int) := by omega
                  have hp0 : p2 = true := by rw [Hp2.out, decide_eq_true c1, decide_eq_true c2]; rfl
                  subst hp0
                  go_wp2
                  go_meet
                  exact ⟨rfl, rfl⟩
                · have d2 : ¬ ((i : Nat) : Int) < ((mid : Nat) : Int) := by omega
                  have hp0 : p2 = false := by rw [Hp2.out, decide_eq_false (show ¬ i < mid by omega), Bool.and_false]
                  subst hp0
                  go_wp2
                  go_meet
                  exact ⟨rfl, rfl⟩
              · have d1 : ¬ ((pa : Nat) : Int) < ((i : Nat) : Int) := by omega
                have hp0 : p2 = false := by rw [Hp2.out, decide_eq_false (show ¬ pa < i by omega), Bool.false_and]
                subst hp0
                go_wp2
                go_meet
                exact ⟨rfl, rfl⟩
            case rest =>
              obtain ⟨rfl, rfl⟩ := hcut
              go_upto_if 199 with fail
              go_cut [] (fun wx => Hid (RowC wx D off (P ++ (so (U1 ++ V1) ++ ((U2 ++ V2) ++ S)))) ∧ Hid (GW D w wx))
              case first => as_aux_lemma =>
                cases p2 with
                | true =>
                  have hq : pa < i ∧ i < mid := by
                    have := Hp2.out.symm
                    rw [Bool.and_eq_true, decide_eq_true_iff, decide_eq_true_iff] at this
                    exact this
                  have ea : (pa : Int) = (P.length : Int) := by have := HPA.out; omega
                  have em : (i : Int) = (P.length : Int) + U1.length := by have := L1.out; omega
                  have eb : (mid : Int) = (P.length : Int) + U1.length + V1.length := by have := L1.out; omega
                  have HO : Hid (SymO P U1 V1 (U2 ++ V2 ++ S) n (pa : Int) (i : Int) (mid : Int)) := by
                    show SymO _ _ _ _ _ _ _ _
                    rw [ea, em, eb]
                    have h2 := L1.out
                    have h3 := HPA.out
                    exact HO1.out (by omega) (by omega)
                  have HLN : Hid (U1.length + V1.length < N) := by
                    show _ < _
                    have h1 := LT.out
                    have h2 := L1.out
                    omega
                  clear hq ea em eb
                  go_wp2_with fail
                  refine (IH.out P U1 V1 (U2 ++ V2 ++ S) _ _ _ w1 HLN.out HO.out R1.out).mono ?_
                  rintro r w2 ⟨rfl, hr, hg⟩
                  have R2 := Lib.hid hr
                  have G2 := Lib.hid (G1.out.trans hg)
                  clear hr hg
                  go_wp2
                  go_meet
                  exact ⟨R2, G2⟩
                | false =>
                  have hq : U1.length = 0 ∨ V1.length = 0 := by
                    have h1 := Hp2.out.symm
                    have h2 := L1.out
                    have h3 := HPA.out
                    rw [Bool.and_eq_false_iff, decide_eq_false_iff_not, decide_eq_false_iff_not] at h1
                    omega
                  have R2 : Hid (RowC w1 D off (P ++ (so (U1 ++ V1) ++ ((U2 ++ V2) ++ S)))) := by
                    show RowC _ _ _ _
                    rw [HS1.out hq]
                    exact R1.out
                  clear hq
                  go_wp2
                  go_meet
                  exact ⟨R2, G1⟩
              case rest =>
                obtain ⟨R2, G2⟩ := hcut
                clear R1 G1
                obtain ⟨w2, rfl⟩ : ∃ w2 : World, w2 = wc := ⟨_, rfl⟩
                go_upto_region 43 with fail
                go_cut [213] (fun c wx => c = .bool p3 ∧ w2 = wx)
                case first => as_aux_lemma =>
                  rcases Nat.lt_or_ge mid e with c1 | c1
                  · have d1 : ((mid : Nat) : Int) < ((e : Nat) : Int) := by omega
                    rcases Nat.lt_or_ge e pb with c2 | c2
                    · have d2 : ((e : Nat) : Int) < ((pb : Nat) : Int) := by omega
                      have hp0 : p3 = true := by rw [Hp3.out, decide_eq_true c1, decide_eq_true c2]; rfl
                      subst hp0
                      go_wp2
                      go_meet
                      exact ⟨rfl, rfl⟩
                    · have d2 : ¬ ((e : Nat) : Int) < ((pb : Nat) : Int) := by omega
                      have hp0 : p3 = false := by rw [Hp3.out, decide_eq_false (show ¬ e < pb by omega), Bool.and_false]
                      subst hp0
                      go_wp2
                      go_meet
                      exact ⟨rfl, rfl⟩
                  · have d1 : ¬ ((mid : Nat) : Int) < ((e : Nat) : Int) := by omega
                    have hp0 : p3 = false := by rw [Hp3.out, decide_eq_false (show ¬ mid < e by omega), Bool.false_and]
                    subst hp0
                    go_wp2
                    go_meet
                    exact ⟨rfl, rfl⟩
                case rest =>
                  obtain ⟨rfl, rfl⟩ := hcut
                  cases p3 with
                  | true =>
                    have hq : mid < e ∧ e < pb := by
                      have := Hp3.out.symm
                      rw [Bool.and_eq_true, decide_eq_true_iff, decide_eq_true_iff] at this
                      exact this
                    have hpl : (P ++ so (U1 ++ V1)).length = mid := by rw [List.length_append, so_len, List.length_append]; have := L1.out; omega
                    have ea : (mid : Int) = ((P ++ so (U1 ++ V1)).length : Int) := by omega
                    have em : (e : Int) = ((P ++ so (U1 ++ V1)).length : Int) + U2.length := by have := L1.out; omega
                    have eb : (pb : Int) = ((P ++ so (U1 ++ V1)).length : Int) + U2.length + V2.length := by have := L1.out; omega
                    have HO : Hid (SymO (P ++ so (U1 ++ V1)) U2 V2 S n (mid : Int) (e : Int) (pb : Int)) := by
                      show SymO _ _ _ _ _ _ _ _
                      rw [ea, em, eb]
                      have h2 := L1.out
                      exact HO2.out (by omega) (by omega)
                    have HLN : Hid (U2.length + V2.length < N) := by
                      show _ < _
                      have h1 := LT.out
                      have h2 := L1.out
                      have h3 := HPA.out
                      omega
                    have R2' : Hid (RowC w2 D off ((P ++ so (U1 ++ V1)) ++ ((U2 ++ V2) ++ S))) := by
                      show RowC _ _ _ _
                      rw [List.append_assoc]
                      exact R2.out
                    clear hq hpl ea em eb
                    go_wp2_with fail
                    refine (IH.out (P ++ so (U1 ++ V1)) U2 V2 S _ _ _ w2 HLN.out HO.out R2'.out).mono ?_
                    rintro r w3 ⟨rfl, hr, hg⟩
                    have R3 := Lib.hid hr
                    have G3 := Lib.hid (G2.out.trans hg)
                    clear hr hg
                    go_wp2
                    go_end0
                    refine ⟨rfl, ?_, G3.out⟩
                    rw [HSD.out, List.append_assoc]
                    have := R3.out
                    rw [List.append_assoc] at this
                    exact this
                  | false =>
                    have hq : U2.length = 0 ∨ V2.length = 0 := by
                      have h1 := Hp3.out.symm
                      have h2 := L1.out
                      rw [Bool.and_eq_false_iff, decide_eq_false_iff_not, decide_eq_false_iff_not] at h1
                      omega
                    have HQ := Lib.hid hq
                    clear hq
                    go_wp2
                    go_end0
                    refine ⟨rfl, ?_, G2.out⟩
                    rw [HSD.out, HS2.out HQ.out, List.append_assoc]
                    exact R2.out
end Go.Proofs.YtdpbedkppomffaaDoor
