/-
  sundialref.sorted: the walk.
-/
import Derived.Laws.AppendOwnNone
import Derived.BigQuiet
import Derived.Test.YtdpbedkppomffaaGreatDoorSpE
namespace Go.Proofs.YtdpbedkppomffaaGreatDoor
set_option linter.unusedVariables false
set_option linter.unusedSimpArgs false
open Go.ChangeShapes Go.WideShapes Go.ChangeAt Go.RowKit Civ

def RJn (cs : List Value) (x : Int) : Prop := cs = [.int .i64 x]
theorem rj_of_own {w : World} {B : Nat} {v : Value} {l : List Int} (h : w.ownsRow B 3 1 v l.length (l.flatMap encJ)) : SlAt w 1 RJn v l :=
  slAt_of_own (by decide) (fun _ => rfl) (fun _ _ => rfl) h
theorem SlAt.tk {w : World} {b off c : Nat} {xs : List Int} {n : Nat} (h : SlAt w 1 RJn (.slice (some ⟨b, off, none⟩) n c) xs) (k : Nat) (hk : k ≤ xs.length) (h0 : 0 < k) : SlAt w 1 RJn (.slice (some ⟨b, off, none⟩) k c) (xs.take k) := by
  have hl : (xs.take k).length = k := by rw [List.length_take]; omega
  rcases h with ⟨a, cap, e, rfl⟩ | ⟨d, o, cap, hv, p0, p1, p2, p3, p4⟩
  · simp at hk; omega
  · simp only [Value.slice.injEq, Option.some.injEq, Addr.mk.injEq, and_true] at hv
    obtain ⟨⟨rfl, rfl⟩, rfl, rfl⟩ := hv
    refine .inr ⟨b, off, c, by rw [hl], by omega, by omega, p2, p3, fun i hi => ?_⟩
    obtain ⟨cs, q0, q1, q2⟩ := p4 i (by omega)
    exact ⟨cs, q0, by rw [List.getElem_take]; exact q1, q2⟩
theorem SlAt.dp {w : World} {b off c : Nat} {xs : List Int} {n : Nat} (h : SlAt w 1 RJn (.slice (some ⟨b, off, none⟩) n c) xs) (k m d : Nat) (hk : k < xs.length) (hm : m = xs.length - k) (hd : d = c - k) : SlAt w 1 RJn (.slice (some ⟨b, off + k, none⟩) m d) (xs.drop k) := by
  have hl : (xs.drop k).length = m := by rw [List.length_drop]; omega
  rcases h with ⟨a, cap, e, rfl⟩ | ⟨d', o, cap, hv, p0, p1, p2, p3, p4⟩
  · simp at hk
  · simp only [Value.slice.injEq, Option.some.injEq, Addr.mk.injEq, and_true] at hv
    obtain ⟨⟨rfl, rfl⟩, rfl, rfl⟩ := hv
    refine .inr ⟨b, off + k, d, by rw [hl], by omega, by omega, by omega, p3, fun i hi => ?_⟩
    obtain ⟨cs, q0, q1, q2⟩ := p4 (k + i) (by omega)
    refine ⟨cs, q0, by rw [List.getElem_drop]; exact q1, fun j hj => ?_⟩
    have := q2 j hj
    rw [show off + k + i * 1 + j = off + (k + i) * 1 + j by omega]
    exact this
theorem entJ {w : World} {aa : Option Addr} {n ca : Nat} {xs : List Int} (h : SlAt w 1 RJn (.slice aa n ca) xs) (k : Nat) (hk : k < xs.length) :
    ∃ b off, aa = some ⟨b, off, none⟩ ∧ b < w.heap.size ∧ w.cell? ⟨b, off + k, none⟩ = some (.int .i64 xs[k]) := by
  rcases h with ⟨a, cap, _, rfl⟩ | ⟨b, off, cap, e, h0, h1, h2, h3, h4⟩
  · simp at hk
  · obtain ⟨cs, hl, rfl, hc⟩ := h4 k hk
    simp only [Value.slice.injEq] at e
    obtain ⟨rfl, -, -⟩ := e
    refine ⟨b, off, rfl, h3, ?_⟩
    have := hc 0 (by omega)
    rw [Nat.mul_one, Nat.add_zero] at this
    exact this
set_option maxRecDepth 100000 in
theorem sorted_short (l : List Int) (v : Value) (w : World) (hl : l.length < 2) (h : SlAt w 1 RJn v l) :
    Calls Tryz.prog 41 #[v] w fun e w' => ∃ v', e = .returned v' ∧ SlAt w' 1 RJn v' (srtC l) ∧ Below w.heap.size w w' := by
  obtain ⟨a, c, rfl, hc⟩ := h.shape
  have hi : (l.length : Int) < 2 := by omega
  have HR : Hid (SlAt w 1 RJn (.slice a l.length c) (srtC l)) := by show SlAt _ _ _ _ _; rw [srtC_short hl]; exact h
  clear h hl
  go_enter Tryz.func41, Tryz.ntmps41
  go_wp2_with fail
  go_ret
  exact ⟨_, rfl, HR.out, Below.refl _ _⟩
set_option maxHeartbeats 4000000 in
set_option maxRecDepth 100000 in
theorem sorted_long (l : List Int) (v : Value) (w : World) (hl : 2 ≤ l.length) (hL : l.length ≤ 1000000) (h : SlAt w 1 RJn v l)
    (ih : ∀ (l' : List Int) (v' : Value) (w' : World), l'.length < l.length → SlAt w' 1 RJn v' l' → Calls Tryz.prog 41 #[v'] w' fun e w2 => ∃ v2, e = .returned v2 ∧ SlAt w2 1 RJn v2 (srtC l') ∧ Below w'.heap.size w' w2) :
    Calls Tryz.prog 41 #[v] w fun e w' => ∃ v', e = .returned v' ∧ SlAt w' 1 RJn v' (srtC l) ∧ Below w.heap.size w w' := by
  obtain ⟨ij, hij, hj0, hj1, hj2⟩ := info_parts info_intz
  obtain ⟨aa, c, rfl, hc⟩ := h.shape
  obtain ⟨b0, o0, rfl, -, -⟩ := entJ h 0 (by omega)
  obtain ⟨m, hm⟩ : ∃ m, l.length / 2 = m := ⟨_, rfl⟩
  have hcap : l.length ≤ c := by
    rcases h with ⟨a, cap, e, rfl⟩ | ⟨d, o, cap, hv, p0, p1, p2, p3, p4⟩
    · simp at hl
    · simp only [Value.slice.injEq] at hv
      obtain ⟨-, -, rfl⟩ := hv
      exact p1
  have H1 := Lib.hid (ih (l.take m) (.slice (some ⟨b0, o0, none⟩) m c) w (by rw [List.length_take]; omega) (h.tk m (by omega) (by omega)))
  have H2 := Lib.hid (fun wx (hb : Below w.heap.size w wx) => ih (l.drop m) (.slice (some ⟨b0, o0 + m, none⟩) (l.length - m) (c - m)) wx (by rw [List.length_drop]; omega) ((h.mono hb fun _ _ h => h).dp m _ _ (by omega) rfl rfl))
  have HM : Hid (mgB (srtC (l.take m)) (srtC (l.drop m)) = srtC l) := by show _ = _; rw [mgB_srt, List.take_append_drop]
  have hAl := srtC_len (l.take m)
  have hBl := srtC_len (l.drop m)
  rw [List.length_take] at hAl
  rw [List.length_drop] at hBl
  have hA0 : 0 < (srtC (l.take m)).length := srtC_pos (by rw [List.length_take]; omega)
  have hRl : (srtC l).length ≤ l.length := srtC_len l
  generalize srtC (l.take m) = A at *
  generalize srtC (l.drop m) = B at *
  generalize srtC l = R at *
  have hA1 : A.length ≤ 1000000 := by omega
  have hB1 : B.length ≤ 1000000 := by omega
  have hR1 : R.length ≤ 1000000 := by omega
  have hq : (l.length : Int) / 2 = (m : Int) := by omega
  have hni : ¬ (l.length : Int) < 2 := by omega
  have hml : m ≤ l.length := by omega
  have hmc : m ≤ c := by omega
  have hcm : ¬ c = m := by omega
  have hmi : (m : Int) ≤ (l.length : Int) := by omega
  have hmci : (m : Int) ≤ (c : Int) := by omega
  have HR1 := Lib.hid hR1
  have hm1 : (m : Int) ≤ 1000000 := by omega
  have hw : wrap64 (m : Int) = (m : Int) := IntWalk.wrap64_in _ (by omega)
  clear h ih hc hm hl hL hAl hBl hRl hR1
  generalize hn : l.length = n at *
  clear hn
  go_enter Tryz.func41, Tryz.ntmps41
  go_wp2_with fail
  refine H1.out.mono ?_; rintro e w1 ⟨va, rfl, ha, hb1⟩
  have B1 := Lib.hid hb1
  have SA1 := Lib.hid ha
  clear hb1 ha H1
  go_wp2_with fail
  refine (H2.out _ B1.out).mono ?_; rintro e w2 ⟨vb, rfl, hb, hb2⟩
  have SA := Lib.hid (SA1.out.mono hb2 fun _ _ h => h)
  have SB := Lib.hid hb
  have B2 := Lib.hid (B1.out.trans (hb2.mono B1.out.size))
  have B2' : Hid (Below w2.heap.size w2 w2) := Below.refl _ _
  clear hb hb2 H2 B1 SA1
  obtain ⟨aA, cA, rfl, -⟩ := SA.out.shape
  obtain ⟨aB, cB, rfl, -⟩ := SB.out.shape
  obtain ⟨ba, oa, rfl, -, -⟩ := entJ SA.out 0 hA0
  have hAc : A.length ≤ cA := by
    rcases SA.out with ⟨a, cap, e, h⟩ | ⟨d, o, cap, hv, p0, p1, p2, p3, p4⟩
    · rw [h] at hA0; simp at hA0
    · simp only [Value.slice.injEq] at hv
      obtain ⟨-, -, rfl⟩ := hv
      exact p1
  go_wp2_with fail
  go_loopw [5, 6, 7] (fun vo vi vk wr => ∃ (i k : Nat) (L : List Int), i ≤ A.length ∧ k ≤ B.length ∧ vi = .int .i64 i ∧ vk = .int .i64 k ∧ Hid (L ++ mgB (A.drop i) (B.drop k) = R) ∧ Hid (wr.ownsRow w2.heap.size 3 1 vo L.length (L.flatMap encJ)) ∧ Hid (Below w2.heap.size w2 wr)) (fun _ _ vk _ => (B.length - intOf vk).toNat)
  case atStart => exact ⟨0, 0, [], Nat.zero_le _, Nat.zero_le _, rfl, rfl, HM.out, World.ownsRow_nil _ _ _ _, Below.refl _ _⟩
  case round =>
    obtain ⟨i, k, L, hi, hk, rfl, rfl, HK, OK, BK⟩ := hrel
    by_cases hlt : k < B.length
    · have hki : (k : Int) < (B.length : Int) := by omega
      obtain ⟨bb, ob, rfl, -, -⟩ := entJ SB.out k hlt
      obtain ⟨y, hy⟩ : ∃ y, B[k] = y := ⟨_, rfl⟩
      have HY := Lib.hid hy
      clear hy
      obtain ⟨wo, rfl⟩ : ∃ wo : World, wo = wr := ⟨_, rfl⟩
      go_wp2
      go_loopw [5, 6] (fun vo vi wr => ∃ (i : Nat) (L : List Int), i ≤ A.length ∧ vi = .int .i64 i ∧ Hid (L ++ mgB (A.drop i) (B.drop k) = R) ∧ Hid (wr.ownsRow w2.heap.size 3 1 vo L.length (L.flatMap encJ)) ∧ Hid (Below w2.heap.size w2 wr)) (fun _ vi _ => (A.length - intOf vi).toNat)
      case atStart => exact ⟨i, L, hi, rfl, HK, OK, BK⟩
      case round =>
        clear HK OK BK hi
        obtain ⟨i, L, hi, rfl, HK, OW, BW⟩ := hrel
        obtain ⟨ao, co, rfl⟩ := own_shape OW.out
        have hLl : L.length ≤ 1000000 := by
          have h1 := congrArg List.length HK.out
          rw [List.length_append] at h1
          have h2 := HR1.out
          omega
        obtain ⟨bb', ob', e, hbb, y0⟩ := entJ (SB.out.mono BW.out fun _ _ h => h) k hlt
        simp only [Option.some.injEq, Addr.mk.injEq, and_true] at e
        obtain ⟨rfl, rfl⟩ := e
        rw [HY.out] at y0
        by_cases hia : i < A.length
        · have hg : decide (i < A.length) = true := decide_eq_true hia
          have hii : (i : Int) < (A.length : Int) := by omega
          obtain ⟨ba', oa', e, hba, x0⟩ := entJ (SA.out.mono (B2'.out.trans BW.out) fun _ _ h => h) i hia
          simp only [Option.some.injEq, Addr.mk.injEq, and_true] at e
          obtain ⟨rfl, rfl⟩ := e
          obtain ⟨x, hx⟩ : ∃ x, A[i] = x := ⟨_, rfl⟩
          have HX := Lib.hid hx
          rw [hx] at x0
          clear hx
          by_cases hle : x < y
          · have hle' : decide (x < y) = true := decide_eq_true hle
            have HN : Hid ((L ++ [x]) ++ mgB (A.drop (i + 1)) (B.drop k) = R) := by
              show _ = _
              rw [List.append_assoc, List.singleton_append, ← HX.out, ← mgB_step_lt hia hlt (by rw [HX.out, HY.out]; exact hle)]
              exact HK.out
            go_wp2
            go_quiet (fail)
            have OWd : Hid ((wr.drewN nq).ownsRow w2.heap.size 3 1 (.slice ao L.length co) L.length (L.flatMap encJ)) := ownsRow_below OW.out (below_draws (Below.refl _ _) nq) (Nat.le_refl _)
            have BWd : Hid (Below w2.heap.size w2 (wr.drewN nq)) := below_draws BW.out nq
            go_wp2_with (at_builtin; refine wpList_append_own _ rfl (.tmp 45) (.tmp 50) 64 rfl w2.heap.size 3 ij (.int .i64 0) 1 8 Tryz.underlying64 hij hj0 hj1 hj2 rfl (by decide) _ _ _ rfl (OWd.out.alloc _) ⟨(wr.drewN nq).heap.size, 0, none⟩ 1 1 (encJ x) rfl rfl (cells_at _ _ _ _ _ rfl rfl) (by intro u hu; simp [encJ] at hu; subst hu; rfl) (by unfold maxLen; omega) (by omega) (by rw [size_alloc]; exact Nat.le_succ_of_le BWd.out.size) ?_; intro v4 w4 hown hgrow _; have OW4 := Lib.hid (own_snocG hown); have BW4 := Lib.hid (append_keep OWd.out ((Below.refl _ _).alloc BWd.out.size _) BWd.out.size hgrow); obtain ⟨a4, c4, rfl⟩ := own_shape hown; clear hown hgrow)
            go_roundw
            case rel => exact ⟨i + 1, _, by omega, by go_num, HN, OW4, BWd.out.trans BW4.out⟩
            case measure => simp [intOf]; omega
          · have hle' : decide (x < y) = false := decide_eq_false hle
            by_cases heq : x = y
            · have heq' : (x == y) = true := beq_iff_eq.2 heq
              have HN : Hid ((L ++ [y]) ++ mgB (A.drop (i + 1)) (B.drop (k + 1)) = R) := by
                show _ = _
                rw [List.append_assoc, List.singleton_append, ← HY.out, ← mgB_step_eq hia hlt (by rw [HX.out, HY.out]; exact heq)]
                exact HK.out
              clear heq hle
              go_wp2
              go_quiet (fail)
              obtain ⟨wq, hwq⟩ : ∃ wq, wr.drewN nq = wq := ⟨_, rfl⟩
              go_upto_region 13 with fail
              rw [hwq]
              have BQ : Hid (Below wr.heap.size wr wq) := by show Below _ _ _; rw [← hwq]; exact below_draws (Below.refl _ _) nq
              have OWq := Lib.hid (ownsRow_below OW.out BQ.out (Nat.le_refl _))
              have BWq := Lib.hid (BW.out.trans (BQ.out.mono BW.out.size))
              have y1 := (BQ.out.cell (p := ⟨bb, ob + k, none⟩) hbb).trans y0
              have x1 := (BQ.out.cell (p := ⟨ba, oa + i, none⟩) hba).trans x0
              clear x0
              clear hwq y0
              go_wp2
              go_quiet (fail)
              have OWd : Hid ((wq.drewN nq).ownsRow w2.heap.size 3 1 (.slice ao L.length co) L.length (L.flatMap encJ)) := ownsRow_below OWq.out (below_draws (Below.refl _ _) nq) (Nat.le_refl _)
              have BWd : Hid (Below w2.heap.size w2 (wq.drewN nq)) := below_draws BWq.out nq
              go_wp2_with (at_builtin; refine wpList_append_own _ rfl (.tmp 71) (.tmp 76) 64 rfl w2.heap.size 3 ij (.int .i64 0) 1 8 Tryz.underlying64 hij hj0 hj1 hj2 rfl (by decide) _ _ _ rfl (OWd.out.alloc _) ⟨(wq.drewN nq).heap.size, 0, none⟩ 1 1 (encJ y) rfl rfl (cells_at _ _ _ _ _ rfl rfl) (by intro u hu; simp [encJ] at hu; subst hu; rfl) (by unfold maxLen; omega) (by omega) (by rw [size_alloc]; exact Nat.le_succ_of_le BWd.out.size) ?_; intro v4 w4 hown hgrow _; have OW4 := Lib.hid (own_snocG hown); have BW4 := Lib.hid (append_keep OWd.out ((Below.refl _ _).alloc BWd.out.size _) BWd.out.size hgrow); obtain ⟨a4, c4, rfl⟩ := own_shape hown; clear hown hgrow)
              go_roundw
              case rel => exact ⟨i + 1, k + 1, _, by omega, by omega, by go_num, by go_num, HN, OW4, BWd.out.trans BW4.out⟩
              case measure => simp [intOf]; omega
            · have heq' : (x == y) = false := beq_eq_false_iff_ne.2 heq
              have HN : Hid ((L ++ [y]) ++ mgB (A.drop i) (B.drop (k + 1)) = R) := by
                show _ = _
                rw [List.append_assoc, List.singleton_append, ← HY.out, ← mgB_step_gt hia hlt (by rw [HX.out, HY.out]; omega)]
                exact HK.out
              clear heq hle
              go_wp2
              go_quiet (fail)
              obtain ⟨wq, hwq⟩ : ∃ wq, wr.drewN nq = wq := ⟨_, rfl⟩
              go_upto_region 13 with fail
              rw [hwq]
              have BQ : Hid (Below wr.heap.size wr wq) := by show Below _ _ _; rw [← hwq]; exact below_draws (Below.refl _ _) nq
              have OWq := Lib.hid (ownsRow_below OW.out BQ.out (Nat.le_refl _))
              have BWq := Lib.hid (BW.out.trans (BQ.out.mono BW.out.size))
              have y1 := (BQ.out.cell (p := ⟨bb, ob + k, none⟩) hbb).trans y0
              have x1 := (BQ.out.cell (p := ⟨ba, oa + i, none⟩) hba).trans x0
              clear x0
              clear hwq y0
              go_wp2
              go_quiet (fail)
              have OWd : Hid ((wq.drewN nq).ownsRow w2.heap.size 3 1 (.slice ao L.length co) L.length (L.flatMap encJ)) := ownsRow_below OWq.out (below_draws (Below.refl _ _) nq) (Nat.le_refl _)
              have BWd : Hid (Below w2.heap.size w2 (wq.drewN nq)) := below_draws BWq.out nq
              go_wp2_with (at_builtin; refine wpList_append_own _ rfl (.tmp 71) (.tmp 76) 64 rfl w2.heap.size 3 ij (.int .i64 0) 1 8 Tryz.underlying64 hij hj0 hj1 hj2 rfl (by decide) _ _ _ rfl (OWd.out.alloc _) ⟨(wq.drewN nq).heap.size, 0, none⟩ 1 1 (encJ y) rfl rfl (cells_at _ _ _ _ _ rfl rfl) (by intro u hu; simp [encJ] at hu; subst hu; rfl) (by unfold maxLen; omega) (by omega) (by rw [size_alloc]; exact Nat.le_succ_of_le BWd.out.size) ?_; intro v4 w4 hown hgrow _; have OW4 := Lib.hid (own_snocG hown); have BW4 := Lib.hid (append_keep OWd.out ((Below.refl _ _).alloc BWd.out.size _) BWd.out.size hgrow); obtain ⟨a4, c4, rfl⟩ := own_shape hown; clear hown hgrow)
              go_roundw
              case rel => exact ⟨i, k + 1, _, hi, by omega, rfl, by go_num, HN, OW4, BWd.out.trans BW4.out⟩
              case measure => simp [intOf]; omega
        · have hg : decide (i < A.length) = false := decide_eq_false hia
          have HN : Hid ((L ++ [y]) ++ mgB (A.drop i) (B.drop (k + 1)) = R) := by
            show _ = _
            rw [List.append_assoc, List.singleton_append, ← HY.out, ← mgB_step_end (by omega) hlt]
            exact HK.out
          go_wp2
          go_quiet (fail)
          obtain ⟨wq, hwq⟩ : ∃ wq, wr.drewN nq = wq := ⟨_, rfl⟩
          go_upto_region 13 with fail
          rw [hwq]
          have BQ : Hid (Below wr.heap.size wr wq) := by show Below _ _ _; rw [← hwq]; exact below_draws (Below.refl _ _) nq
          have OWq := Lib.hid (ownsRow_below OW.out BQ.out (Nat.le_refl _))
          have BWq := Lib.hid (BW.out.trans (BQ.out.mono BW.out.size))
          have y1 := (BQ.out.cell (p := ⟨bb, ob + k, none⟩) hbb).trans y0
          clear hwq y0
          go_wp2
          go_quiet (fail)
          have OWd : Hid ((wq.drewN nq).ownsRow w2.heap.size 3 1 (.slice ao L.length co) L.length (L.flatMap encJ)) := ownsRow_below OWq.out (below_draws (Below.refl _ _) nq) (Nat.le_refl _)
          have BWd : Hid (Below w2.heap.size w2 (wq.drewN nq)) := below_draws BWq.out nq
          go_wp2_with (at_builtin; refine wpList_append_own _ rfl (.tmp 71) (.tmp 76) 64 rfl w2.heap.size 3 ij (.int .i64 0) 1 8 Tryz.underlying64 hij hj0 hj1 hj2 rfl (by decide) _ _ _ rfl (OWd.out.alloc _) ⟨(wq.drewN nq).heap.size, 0, none⟩ 1 1 (encJ y) rfl rfl (cells_at _ _ _ _ _ rfl rfl) (by intro u hu; simp [encJ] at hu; subst hu; rfl) (by unfold maxLen; omega) (by omega) (by rw [size_alloc]; exact Nat.le_succ_of_le BWd.out.size) ?_; intro v4 w4 hown hgrow _; have OW4 := Lib.hid (own_snocG hown); have BW4 := Lib.hid (append_keep OWd.out ((Below.refl _ _).alloc BWd.out.size _) BWd.out.size hgrow); obtain ⟨a4, c4, rfl⟩ := own_shape hown; clear hown hgrow)
          go_roundw
          case rel => exact ⟨i, k + 1, _, hi, by omega, rfl, by go_num, HN, OW4, BWd.out.trans BW4.out⟩
          case measure => simp [intOf]; omega
    · obtain rfl : k = B.length := by omega
      have hnl : ¬ (B.length : Int) < (B.length : Int) := by omega
      obtain ⟨ao, co, rfl⟩ := own_shape OK.out
      have hLl : L.length ≤ 1000000 := by
        have h1 := congrArg List.length HK.out
        rw [List.length_append] at h1
        have h2 := HR1.out
        omega
      have HDN : Hid (R = L ++ A.drop i) := by show _ = _; rw [← HK.out, List.drop_length, mgB_nil]
      have hia : (i : Int) ≤ (A.length : Int) := by omega
      have hic : (i : Int) ≤ (cA : Int) := by omega
      obtain ⟨d, hd⟩ : ∃ d, A.length - i = d := ⟨_, rfl⟩
      have hd8 : d ≤ 1000000 := by omega
      have HNL : Hid (((A.drop i).flatMap encJ).length = d * 1) := by show _ = _; rw [len_flat (sz := 1) (fun _ => rfl), List.length_drop, hd]
      have HLN : Hid (L.length + d = (L ++ A.drop i).length) := by show _ = _; rw [List.length_append, List.length_drop, hd]
      have hone : ∀ u ∈ (A.drop i).flatMap encJ, u.oneCell' = true := by
        intro u hu
        obtain ⟨x, _, hx⟩ := List.mem_flatMap.1 hu
        simp [encJ] at hx
        subst hx
        rfl
      have HONE := Lib.hid hone
      clear hone
      by_cases hci : cA = i
      · have hie : i = A.length := by omega
        have HNW : Hid (∀ j u, ((A.drop i).flatMap encJ)[j]? = some u → wr.cell? ((⟨ba, oa, none⟩ : Addr).add j) = some u) := by
          show ∀ j u, _ → _
          intro j u hj
          rw [List.drop_of_length_le (by omega)] at hj
          simp at hj
        clear hie
        go_wp2_with (at_builtin; refine wpList_append_own _ rfl (.tmp 78) (.tmp 81) 64 rfl w2.heap.size 3 ij (.int .i64 0) 1 8 Tryz.underlying64 hij hj0 hj1 hj2 rfl (by decide) _ _ _ rfl OK.out ⟨ba, oa, none⟩ d _ ((A.drop i).flatMap encJ) rfl HNL.out HNW.out HONE.out (by unfold maxLen; omega) (by omega) BK.out.size ?_; intro v4 w4 hown hgrow _; have OW4 := Lib.hid hown; have BW4 := Lib.hid (append_keep OK.out ((Below.refl _ _)) BK.out.size hgrow); obtain ⟨a4, c4, rfl⟩ := own_shape hown; clear hown hgrow)
        go_ret
        refine ⟨_, rfl, ?_, B2.out.trans ((BK.out.trans BW4.out).mono B2.out.size)⟩
        have h1 := OW4.out
        rw [← List.flatMap_append, HLN.out, ← HDN.out] at h1
        rw [HLN.out, ← HDN.out]
        exact rj_of_own h1
      · have HNW : Hid (∀ j u, ((A.drop i).flatMap encJ)[j]? = some u → wr.cell? ((⟨ba, oa + i, none⟩ : Addr).add j) = some u) := by
          show ∀ j u, _ → _
          intro j u hj
          obtain ⟨hjl, -⟩ := List.getElem?_eq_some_iff.1 hj
          rw [len_flat (sz := 1) (fun _ => rfl), Nat.mul_one, List.length_drop] at hjl
          have hf := flat_at (sz := 1) (enc := encJ) (fun _ => rfl) (A.drop i) j 0 (by rw [List.length_drop]; omega) (by decide)
          rw [Nat.mul_one, Nat.add_zero] at hf
          rw [hf] at hj
          simp [encJ] at hj
          rw [add_one_]
          obtain ⟨ba', oa', e, hba, x0⟩ := entJ (SA.out.mono (B2'.out.trans BK.out) fun _ _ h => h) (i + j) (by omega)
          simp only [Option.some.injEq, Addr.mk.injEq, and_true] at e
          obtain ⟨rfl, rfl⟩ := e
          rw [Nat.add_assoc, x0, ← hj]
        go_wp2_with (at_builtin; refine wpList_append_own _ rfl (.tmp 78) (.tmp 81) 64 rfl w2.heap.size 3 ij (.int .i64 0) 1 8 Tryz.underlying64 hij hj0 hj1 hj2 rfl (by decide) _ _ _ rfl OK.out ⟨ba, oa + i, none⟩ d _ ((A.drop i).flatMap encJ) rfl HNL.out HNW.out HONE.out (by unfold maxLen; omega) (by omega) BK.out.size ?_; intro v4 w4 hown hgrow _; have OW4 := Lib.hid hown; have BW4 := Lib.hid (append_keep OK.out ((Below.refl _ _)) BK.out.size hgrow); obtain ⟨a4, c4, rfl⟩ := own_shape hown; clear hown hgrow)
        go_ret
        refine ⟨_, rfl, ?_, B2.out.trans ((BK.out.trans BW4.out).mono B2.out.size)⟩
        have h1 := OW4.out
        rw [← List.flatMap_append, HLN.out, ← HDN.out] at h1
        rw [HLN.out, ← HDN.out]
        exact rj_of_own h1
theorem sorted_all : ∀ (n : Nat) (l : List Int) (v : Value) (w : World), l.length ≤ n → l.length ≤ 1000000 → SlAt w 1 RJn v l → Calls Tryz.prog 41 #[v] w fun e w' => ∃ v', e = .returned v' ∧ SlAt w' 1 RJn v' (srtC l) ∧ Below w.heap.size w w'
  | 0, l, v, w, hn, _, h => sorted_short l v w (by omega) h
  | n + 1, l, v, w, hn, hL, h => by
    by_cases hlt : l.length < 2
    · exact sorted_short l v w hlt h
    · exact sorted_long l v w (by omega) hL h fun l' v' w' h1 h2 => sorted_all n l' v' w' (by omega) (by omega) h2
theorem sorted_any (l : List Int) (v : Value) (w : World) (hL : l.length ≤ 1000000) (h : SlAt w 1 RJn v l) :
    Calls Tryz.prog 41 #[v] w fun e w' => ∃ v', e = .returned v' ∧ SlAt w' 1 RJn v' (srtC l) ∧ Below w.heap.size w w' :=
  sorted_all l.length l v w (Nat.le_refl _) hL h
end Go.Proofs.YtdpbedkppomffaaGreatDoor
