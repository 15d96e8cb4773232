/-
  sundialref.inOrder, walked.
-/
import Derived.Test.YtdpbedkppomffaaDoorZonI
namespace Go.Proofs.YtdpbedkppomffaaDoor
set_option linter.unusedVariables false
set_option linter.unusedSimpArgs false
open Go.ChangeShapes Go.WideShapes Go.ChangeAt Go.RowKit Civ

theorem SlT.base {w : World} {B C : Nat} {v : Value} {l : List Trn} (h : B ≤ C) (g : SlT w C v l) : SlT w B v l := by
  obtain ⟨a, c, e, h0, h1, h2⟩ := g
  refine ⟨a, c, e, h0, h1, ?_⟩
  rcases h2 with h2 | ⟨D, off, e2, h3, h4⟩
  · exact .inl h2
  · exact .inr ⟨D, off, e2, h3, Nat.le_trans h h4⟩
def IoC (N : Nat) : Prop := ∀ (v : Value) (l : List Trn) (B : Nat) (w : World), l.length < N → SlT w B v l → B ≤ w.heap.size → Tg l → NoB l → l.length ≤ 50000 →
    Calls Tryd.prog 160 #[v] w fun e w' => ∃ v', e = .returned v' ∧ SlT w' B v' (so l) ∧ Below w.heap.size w w'
theorem so_short {l : List Trn} (h : l.length < 2) : so l = l := by
  rcases l with _ | ⟨x, _ | ⟨y, l⟩⟩
  · exact so_self (l := []) List.Pairwise.nil
  · exact so_self (l := [x]) (List.pairwise_singleton _ _)
  · simp at h; omega
theorem TurAt.cells {w : World} {b o : Nat} {x : Trn} (h : TurAt w b o x) : ∀ j u, (turV x)[j]? = some u → w.cell? ⟨b, o + j, none⟩ = some u := by
  obtain ⟨h0, h1, h2, h3, h4, h5, h6, h7, h8, h9, h10, h11, h12⟩ := h
  intro j u hj
  match j, hj with
  | 0, hj => cases hj; exact h0
  | 1, hj => cases hj; exact h1
  | 2, hj => cases hj; exact h2
  | 3, hj => cases hj; exact h3
  | 4, hj => cases hj; exact h4
  | 5, hj => cases hj; exact h5
  | 6, hj => cases hj; exact h6
  | 7, hj => cases hj; exact h7
  | 8, hj => cases hj; exact h8
  | 9, hj => cases hj; exact h9
  | 10, hj => cases hj; exact h10
  | 11, hj => cases hj; exact h11
  | 12, hj => cases hj; exact h12
  | j + 13, hj => simp [turV] at hj
theorem turV_len (x : Trn) : (turV x).length = 13 := rfl
/-- a row's cells, one behind the other. -/
theorem RowT.flat {w : World} {D off : Nat} {l : List Trn} (h : RowT w D off l) : ∀ j u, (l.flatMap turV)[j]? = some u → w.cell? ((⟨D, off, none⟩ : Addr).add j) = some u := by
  intro j u hj
  obtain ⟨hjl, -⟩ := List.getElem?_eq_some_iff.1 hj
  rw [len_flat (sz := 13) turV_len] at hjl
  obtain ⟨i, r, hi, hr, rfl⟩ := div_at (by omega) hjl
  rw [flat_at (sz := 13) turV_len l i r hi hr] at hj
  rw [add_one_]
  have := (h.1 i hi).cells r u hj
  rw [Nat.add_assoc] at this
  exact this
theorem all_one (l : List Trn) : ∀ u ∈ l.flatMap turV, u.oneCell' = true := by
  intro u hu
  obtain ⟨x, _, hx⟩ := List.mem_flatMap.1 hu
  exact turV_one x u hx
set_option maxHeartbeats 8000000 in
set_option maxRecDepth 100000 in
theorem io_step (N : Nat) (ih : IoC N) : IoC (N + 1) := by
  intro v l B w hN hv hB hT hNB hl
  obtain ⟨it, hit, ht0, ht1, ht2⟩ := info_parts info_tur
  obtain ⟨a, c, rfl, hc1, hc2, hrow⟩ := hv
  have hcm := maxLen_eq _ hc2
  by_cases hlt : l.length < 2
  · have hlti : (l.length : Int) < 2 := by omega
    have HF : Hid (SlT w B (.slice a l.length c) (so l)) := by
      show SlT _ _ _ _
      rw [so_short hlt]
      exact ⟨a, c, rfl, hc1, hc2, hrow⟩
    clear ih hrow hc2 hlt hT hNB
    go_enter Tryd.func160, Tryd.ntmps160
    go_wp2
    go_ret
    exact ⟨_, rfl, HF.out, Below.refl _ _⟩
  · obtain ⟨D, off, rfl, hrow, hD⟩ := hrow.resolve_left (by rintro rfl; simp at hlt)
    obtain ⟨n, hn⟩ : ∃ n, n = l.length := ⟨_, rfl⟩
    obtain ⟨h, hh⟩ : ∃ h, h = n / 2 := ⟨_, rfl⟩
    rw [← hn] at hlt hc1 hl hN ⊢
    have hlti : ¬ (n : Int) < 2 := by omega
    have hhi : (n : Int) / 2 = (h : Int) := by omega
    have hch : ¬ c = h := by omega
    have hhn : h < n := by omega
    have HA := Lib.hid (fun w' (hb : Below w.heap.size w w') => ih (.slice (some ⟨D, off, none⟩) h c) (l.take h) B w' (by rw [List.length_take]; omega) ⟨_, c, by rw [List.length_take]; congr 1; omega, by rw [List.length_take]; omega, hc2, .inr ⟨D, off, rfl, (hrow.take h).below hb, hD⟩⟩ (Nat.le_trans hB hb.size) (hT.sub (List.take_sublist _ _)) (hNB.sub fun x hx => List.mem_of_mem_take hx) (by rw [List.length_take]; omega))
    have HBB := Lib.hid (fun w' (hb : Below w.heap.size w w') => ih (.slice (some ⟨D, off + h * 13, none⟩) (n - h) (c - h)) (l.drop h) B w' (by rw [List.length_drop]; omega) ⟨_, c - h, by rw [List.length_drop, ← hn], by rw [List.length_drop]; omega, by omega, .inr ⟨D, off + h * 13, rfl, (hrow.drop h).below hb, hD⟩⟩ (Nat.le_trans hB hb.size) (hT.sub (List.drop_sublist _ _)) (hNB.sub fun x hx => List.mem_of_mem_drop hx) (by rw [List.length_drop]; omega))
    have HT := Lib.hid hT
    have HNB := Lib.hid hNB
    have HN := Lib.hid hn
    have HBz := Lib.hid hB
    have HH := Lib.hid hh
    clear ih hrow hc2 hT hNB hn hB hh hN
    go_enter Tryd.func160, Tryd.ntmps160
    go_wp2_with fail
    refine (HA.out _ (Below.refl _ _)).mono ?_
    rintro e w1 ⟨va, rfl, hva, hb1⟩
    go_wp2_with fail
    have Hva := Lib.hid hva
    have HB1 := Lib.hid hb1
    clear hva
    refine (HBB.out _ HB1.out).mono ?_
    rintro e w2 ⟨vb, rfl, hvb, hb2⟩
    obtain ⟨A, hA⟩ : ∃ A, A = so (l.take h) := ⟨_, rfl⟩
    obtain ⟨Bq, hBq⟩ : ∃ Bq, Bq = so (l.drop h) := ⟨_, rfl⟩
    have hAl : A.length = h := by rw [hA, so_len, List.length_take, ← HN.out]; omega
    have hBl : Bq.length = n - h := by rw [hBq, so_len, List.length_drop, ← HN.out]
    have hva := Hva.out.below hb2
    rw [← hA] at hva
    rw [← hBq] at hvb
    obtain ⟨aa, ca, rfl, hca1, hca2, hra⟩ := hva
    obtain ⟨ab, cb, rfl, hcb1, hcb2, hrb⟩ := hvb
    obtain ⟨DA, oA, rfl, hra, hDA⟩ := hra.resolve_left (by intro e; rw [e] at hAl; simp at hAl; omega)
    obtain ⟨DB, oB, rfl, hrb, hDB⟩ := hrb.resolve_left (by intro e; rw [e] at hBl; simp at hBl; omega)
    have hTT : Tg (l.take h ++ l.drop h) := by rw [List.take_append_drop]; exact HT.out
    obtain ⟨hT1, hT2, hT3⟩ := List.pairwise_append.1 hTT
    have HSA : Hid (Sd A) := by show Sd A; rw [hA]; exact so_sd (Tg.td hT1)
    have HSB : Hid (Sd Bq) := by show Sd Bq; rw [hBq]; exact so_sd (Tg.td hT2)
    have HAH : Hid (Ah A Bq) := by show Ah _ _; rw [hA, hBq]; exact fun x hx y hy => hT3 x (so_mem hx) y (so_mem hy)
    have HSO : Hid (so l = so (A ++ Bq)) := by
      show _ = _
      rw [hA, hBq, so_two (Tg.td hTT), List.take_append_drop]
    have HLB : Hid (A.length + Bq.length = n) := by show _ = _; omega
    have RA := Lib.hid hra
    have RB := Lib.hid hrb
    have HB2 := Lib.hid (HB1.out.trans (hb2.mono HB1.out.size))
    have hA8 : A.length ≤ 50000 := by omega
    have hB8 : Bq.length ≤ 50000 := by omega
    have hcam := maxLen_eq _ hca2
    have hcbm := maxLen_eq _ hcb2
    have HCA := Lib.hid (And.intro hca1 hca2)
    have HBZ2 : Hid (B ≤ w2.heap.size) := Nat.le_trans HBz.out (HB2.out.size)
    have hAc : A.length ≤ ca := hca1
    clear hA hBq hra hrb hT1 hT2 hT3 hTT hb1 hb2 hca1 hca2 hcb1 hcb2 Hva HA HBB hAl hBl hhi hch hhn
    go_wp2
    go_loopw [5, 6, 7] (fun vo i k wr => ∃ (i' k' : Nat) (O : List Trn), i' ≤ A.length ∧ k' ≤ Bq.length ∧ i = .int .i64 i' ∧ k = .int .i64 k' ∧ Hid (MgJ A Bq i' k' O) ∧ Hid (wr.ownsRow w2.heap.size 169 13 vo O.length (O.flatMap turV)) ∧ Hid (Below w2.heap.size w2 wr)) (fun _ _ k _ => (Bq.length - intOf k).toNat)
    case atStart => exact ⟨0, 0, [], Nat.zero_le _, Nat.zero_le _, rfl, rfl, MgJ.start _ _, World.ownsRow_nil _ _ _ _, Below.refl _ _⟩
    case round =>
      obtain ⟨i, k, O, hi, hk, rfl, rfl, MG, OW, BW⟩ := hrel
      by_cases hlt2 : k < Bq.length
      · have hkb : (k : Int) < (Bq.length : Int) := by omega
        obtain ⟨y, hy⟩ : ∃ y, Bq[k]? = some y := ⟨_, List.getElem?_eq_getElem hlt2⟩
        have HY := Lib.hid hy
        clear hy
        obtain ⟨wo, rfl⟩ : ∃ wo : World, wo = wr := ⟨_, rfl⟩
        go_wp2
        go_loopw [5, 6] (fun vo i wr => ∃ (i' : Nat) (O : List Trn), i' ≤ A.length ∧ i = .int .i64 i' ∧ Hid (MgJ A Bq i' k O) ∧ Hid (wr.ownsRow w2.heap.size 169 13 vo O.length (O.flatMap turV)) ∧ Hid (Below w2.heap.size w2 wr)) (fun _ i _ => (A.length - intOf i).toNat)
        case atStart => exact ⟨i, O, hi, rfl, MG, OW, BW⟩
        case round =>
          clear MG OW BW hi
          obtain ⟨i, O, hi, rfl, MG, OW, BW⟩ := hrel
          obtain ⟨ao, co, rfl⟩ := own_shape OW.out
          have hOl : O.length ≤ 100000 := by
            have h1 := MG.out.pm.length_eq
            simp only [List.length_append, List.length_take] at h1
            omega
          have hyb := (RB.out.below BW.out).at HY.out
          obtain ⟨y0, y1, y2, y3, y4, y5, y6, y7, y8, y9, y10, y11, y12⟩ := hyb
          by_cases hia : i < A.length
          · have hg : decide (i < A.length) = true := decide_eq_true hia
            have hii : (i : Int) < (A.length : Int) := by omega
            obtain ⟨x, hx⟩ : ∃ x, A[i]? = some x := ⟨_, List.getElem?_eq_getElem hia⟩
            have HX := Lib.hid hx
            have hxb := (RA.out.below BW.out).at hx
            obtain ⟨x0, x1, x2, x3, x4, x5, x6, x7, x8, x9, x10, x11, x12⟩ := hxb
            have hkey := nlt_key (HAH.out x (List.mem_of_getElem? hx) y (List.mem_of_getElem? HY.out))
            clear hx
            by_cases hle : x.no ≤ y.no
            · have hle' : decide (x.no ≤ y.no) = true := decide_eq_true hle
              have HXY : Hid (tLt x y) := hkey.2 (by omega)
              clear hkey
              go_wp2
              go_quiet (fail)
              have OWd : Hid ((wr.drewN nq).ownsRow w2.heap.size 169 13 (.slice ao O.length co) O.length (O.flatMap turV)) := ownsRow_below OW.out (below_draws (Below.refl _ _) nq) (Nat.le_refl _)
              have BWd : Hid (Below w2.heap.size w2 (wr.drewN nq)) := below_draws BW.out nq
              go_wp2_with (at_builtin; refine wpList_append_own _ rfl (.tmp 47) (.tmp 52) 166 rfl w2.heap.size 169 it (.agg #[.string ⟨#[]⟩, .int .i64 0, .int .i64 0, .int .i64 0, .int .i64 0, .int .i64 0, .int .i64 0, .int .i64 0, .int .i64 0, .int .i64 0, .string ⟨#[]⟩, .int .i64 0, .int .i64 0]) 13 120 Tryd.underlying166 hit ht0 ht1 ht2 rfl (by decide) _ _ _ rfl (OWd.out.alloc _) ⟨wr.heap.size, 0, none⟩ 1 1 (turV x) rfl rfl (cells_at _ _ _ _ _ rfl rfl) (turV_one x) (by unfold maxLen; omega) (by omega) (by rw [size_alloc]; exact Nat.le_succ_of_le BWd.out.size) ?_; intro v4 w4 hown hgrow _; have OW4 := Lib.hid (own_snocG hown); have BW4 := Lib.hid (append_keep OWd.out ((Below.refl _ _).alloc BWd.out.size _) BWd.out.size hgrow); obtain ⟨a4, c4, rfl⟩ := own_shape hown; clear hown hgrow)
              go_roundw
              case rel => exact ⟨i + 1, _, by omega, by go_num, MG.out.left HSA.out HSB.out HX.out HY.out HXY.out, OW4, BWd.out.trans BW4.out⟩
              case measure => simp [intOf]; omega
            · have hle' : decide (x.no ≤ y.no) = false := decide_eq_false hle
              have HMR : Hid (MgJ A Bq i (k + 1) (O ++ [y])) := MG.out.right HSA.out HSB.out HY.out (fun z hz => by
                have e := hz.symm.trans HX.out
                obtain rfl := Option.some.inj e
                have h1 := lt_key (HAH.out z (List.mem_of_getElem? HX.out) y (List.mem_of_getElem? HY.out))
                exact h1.2 (by omega))
              clear hkey
              go_wp2
              go_quiet (fail)
              have OWd : Hid ((wr.drewN nq).ownsRow w2.heap.size 169 13 (.slice ao O.length co) O.length (O.flatMap turV)) := ownsRow_below OW.out (below_draws (Below.refl _ _) nq) (Nat.le_refl _)
              have BWd : Hid (Below w2.heap.size w2 (wr.drewN nq)) := below_draws BW.out nq
              go_wp2_with (at_builtin; refine wpList_append_own _ rfl (.tmp 56) (.tmp 61) 166 rfl w2.heap.size 169 it (.agg #[.string ⟨#[]⟩, .int .i64 0, .int .i64 0, .int .i64 0, .int .i64 0, .int .i64 0, .int .i64 0, .int .i64 0, .int .i64 0, .int .i64 0, .string ⟨#[]⟩, .int .i64 0, .int .i64 0]) 13 120 Tryd.underlying166 hit ht0 ht1 ht2 rfl (by decide) _ _ _ rfl (OWd.out.alloc _) ⟨wr.heap.size, 0, none⟩ 1 1 (turV y) rfl rfl (cells_at _ _ _ _ _ rfl rfl) (turV_one y) (by unfold maxLen; omega) (by omega) (by rw [size_alloc]; exact Nat.le_succ_of_le BWd.out.size) ?_; intro v4 w4 hown hgrow _; have OW4 := Lib.hid (own_snocG hown); have BW4 := Lib.hid (append_keep OWd.out ((Below.refl _ _).alloc BWd.out.size _) BWd.out.size hgrow); obtain ⟨a4, c4, rfl⟩ := own_shape hown; clear hown hgrow)
              go_roundw
              case rel => exact ⟨i, k + 1, _, hi, by omega, rfl, by go_num, HMR, OW4, BWd.out.trans BW4.out⟩
              case measure => simp [intOf]; omega
          · have hg : decide (i < A.length) = false := decide_eq_false hia
            have HMR : Hid (MgJ A Bq i (k + 1) (O ++ [y])) := MG.out.right HSA.out HSB.out HY.out (fun z hz => by
              obtain ⟨hz', -⟩ := List.getElem?_eq_some_iff.1 hz
              exact absurd hz' hia)
            go_wp2
            go_quiet (fail)
            have OWd : Hid ((wr.drewN nq).ownsRow w2.heap.size 169 13 (.slice ao O.length co) O.length (O.flatMap turV)) := ownsRow_below OW.out (below_draws (Below.refl _ _) nq) (Nat.le_refl _)
            have BWd : Hid (Below w2.heap.size w2 (wr.drewN nq)) := below_draws BW.out nq
            go_wp2_with (at_builtin; refine wpList_append_own _ rfl (.tmp 56) (.tmp 61) 166 rfl w2.heap.size 169 it (.agg #[.string ⟨#[]⟩, .int .i64 0, .int .i64 0, .int .i64 0, .int .i64 0, .int .i64 0, .int .i64 0, .int .i64 0, .int .i64 0, .int .i64 0, .string ⟨#[]⟩, .int .i64 0, .int .i64 0]) 13 120 Tryd.underlying166 hit ht0 ht1 ht2 rfl (by decide) _ _ _ rfl (OWd.out.alloc _) ⟨wr.heap.size, 0, none⟩ 1 1 (turV y) rfl rfl (cells_at _ _ _ _ _ rfl rfl) (turV_one y) (by unfold maxLen; omega) (by omega) (by rw [size_alloc]; exact Nat.le_succ_of_le BWd.out.size) ?_; intro v4 w4 hown hgrow _; have OW4 := Lib.hid (own_snocG hown); have BW4 := Lib.hid (append_keep OWd.out ((Below.refl _ _).alloc BWd.out.size _) BWd.out.size hgrow); obtain ⟨a4, c4, rfl⟩ := own_shape hown; clear hown hgrow)
            go_roundw
            case rel => exact ⟨i, k + 1, _, hi, by omega, rfl, by go_num, HMR, OW4, BWd.out.trans BW4.out⟩
            case measure => simp [intOf]; omega
      · obtain rfl : k = Bq.length := by omega
        have hnl : ¬ (Bq.length : Int) < (Bq.length : Int) := by omega
        obtain ⟨ao, co, rfl⟩ := own_shape OW.out
        have hOl : O.length ≤ 100000 := by
          have h1 := MG.out.pm.length_eq
          simp only [List.length_append, List.length_take] at h1
          omega
        have HDN : Hid (so l = O ++ A.drop i) := by show _ = _; rw [HSO.out]; exact MG.out.done HSA.out
        have hia : (i : Int) ≤ (A.length : Int) := by omega
        have hic : (i : Int) ≤ (ca : Int) := by omega
        obtain ⟨d, hd⟩ : ∃ d, A.length - i = d := ⟨_, rfl⟩
        have hd8 : d ≤ 50000 := by omega
        have HNL : Hid (((A.drop i).flatMap turV).length = d * 13) := by show _ = _; rw [len_flat (sz := 13) turV_len, List.length_drop, hd]
        have HLN : Hid (O.length + d = (O ++ A.drop i).length) := by show _ = _; rw [List.length_append, List.length_drop, hd]
        by_cases hci : ca = i
        · have hie : i = A.length := by omega
          have HNW : Hid (∀ j u, ((A.drop i).flatMap turV)[j]? = some u → wr.cell? ((⟨DA, oA, none⟩ : Addr).add j) = some u) := by
            show ∀ j u, _ → _
            intro j u hj
            rw [List.drop_of_length_le (by omega)] at hj
            simp at hj
          clear hie
          go_wp2_with (at_builtin; refine wpList_append_own _ rfl (.tmp 63) (.tmp 66) 166 rfl w2.heap.size 169 it (.agg #[.string ⟨#[]⟩, .int .i64 0, .int .i64 0, .int .i64 0, .int .i64 0, .int .i64 0, .int .i64 0, .int .i64 0, .int .i64 0, .int .i64 0, .string ⟨#[]⟩, .int .i64 0, .int .i64 0]) 13 120 Tryd.underlying166 hit ht0 ht1 ht2 rfl (by decide) _ _ _ rfl OW.out ⟨DA, oA, none⟩ d _ ((A.drop i).flatMap turV) rfl HNL.out HNW.out (all_one _) (by unfold maxLen; omega) (by omega) BW.out.size ?_; intro v4 w4 hown hgrow _; have OW4 := Lib.hid hown; have BW4 := Lib.hid (append_keep OW.out ((Below.refl _ _)) BW.out.size hgrow); obtain ⟨a4, c4, rfl⟩ := own_shape hown; clear hown hgrow)
          go_ret
          refine ⟨_, rfl, ?_, HB2.out.trans ((BW.out.trans BW4.out).mono HB2.out.size)⟩
          exact SlT.base HBZ2.out (by
            have h1 := OW4.out
            rw [← List.flatMap_append, HLN.out, ← HDN.out] at h1
            have h2 := tur_of_own h1
            rw [HLN.out, ← HDN.out]
            exact h2)
        · have HNW : Hid (∀ j u, ((A.drop i).flatMap turV)[j]? = some u → wr.cell? ((⟨DA, oA + i * 13, none⟩ : Addr).add j) = some u) := ((RA.out.below BW.out).drop i).flat
          go_wp2_with (at_builtin; refine wpList_append_own _ rfl (.tmp 63) (.tmp 66) 166 rfl w2.heap.size 169 it (.agg #[.string ⟨#[]⟩, .int .i64 0, .int .i64 0, .int .i64 0, .int .i64 0, .int .i64 0, .int .i64 0, .int .i64 0, .int .i64 0, .int .i64 0, .string ⟨#[]⟩, .int .i64 0, .int .i64 0]) 13 120 Tryd.underlying166 hit ht0 ht1 ht2 rfl (by decide) _ _ _ rfl OW.out ⟨DA, oA + i * 13, none⟩ d _ ((A.drop i).flatMap turV) rfl HNL.out HNW.out (all_one _) (by unfold maxLen; omega) (by omega) BW.out.size ?_; intro v4 w4 hown hgrow _; have OW4 := Lib.hid hown; have BW4 := Lib.hid (append_keep OW.out ((Below.refl _ _)) BW.out.size hgrow); obtain ⟨a4, c4, rfl⟩ := own_shape hown; clear hown hgrow)
          go_ret
          refine ⟨_, rfl, ?_, HB2.out.trans ((BW.out.trans BW4.out).mono HB2.out.size)⟩
          exact SlT.base HBZ2.out (by
            have h1 := OW4.out
            rw [← List.flatMap_append, HLN.out, ← HDN.out] at h1
            have h2 := tur_of_own h1
            rw [HLN.out, ← HDN.out]
            exact h2)
theorem inOrder_any : ∀ N, IoC N
  | 0 => fun _ _ _ _ h => absurd h (by omega)
  | N + 1 => io_step N (inOrder_any N)
end Go.Proofs.YtdpbedkppomffaaDoor
