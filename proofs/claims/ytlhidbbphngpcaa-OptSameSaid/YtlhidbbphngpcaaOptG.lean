/-
  tree.pieces.
-/
import Derived.Test.YtlhidbbphngpcaaOptF
import Derived.Test.YtlhidbbphngpcaaSrtW
import Derived.Test.YtlhidbbphngpcaaOptZ
import Derived.Test.YtlhidbbphngpcaaFwdD
namespace Go.Proofs.Ytlhidbbphngpcaa
set_option linter.unusedVariables false
set_option linter.unusedSimpArgs false
open Go.ChangeShapes Go.WideShapes Go.ChangeAt Go.RowKit

theorem own_lit1 (w : World) (B sz : Nat) (e : TypeId) (l : List Value) (hB : B ≤ w.heap.size) (hl : l.length = sz) :
    (w.alloc (.cells l.toArray e)).ownsRow B e sz (.slice (some ⟨w.heap.size, 0, none⟩) 1 1) 1 l :=
  ⟨by rw [Nat.one_mul]; exact hl, .inr ⟨w.heap.size, 1, l.toArray, rfl, hB, heap_alloc_new w _, Nat.le_refl _, by unfold maxLen; omega, by simp [hl], by rw [Nat.one_mul, ← hl]; simp⟩⟩
theorem bnds_take (ns : List Nod) (k : Nat) (h : k < ns.length) : bnds (ns.take (k + 1)) = bnds (ns.take k) ++ (if ns[k].lf = true then [] else [ns[k].bd]) := by
  rw [take_snoc ns k h, bnds_app]
  congr 1
  unfold bnds
  cases e : ns[k].lf <;> simp [e]
def cutP (C : List Int) (F : Int → Int) : List Pc := ⟨0, F minI⟩ :: (C.filter fun x => x != minI).map fun x => ⟨x, F x⟩
theorem cutP_all (ns : List Nod) (F : Int → Int) : cutP (srtC (bnds ns)) F = pcsOf ns F := rfl
theorem cutP_take (C : List Int) (F : Int → Int) (k : Nat) (h : k < C.length) : cutP (C.take (k + 1)) F = cutP (C.take k) F ++ (if C[k] = minI then [] else [⟨C[k], F C[k]⟩]) := by
  unfold cutP
  rw [take_snoc C k h, List.filter_append, List.map_append, List.cons_append]
  congr 2
  by_cases e : C[k] = minI
  · rw [if_pos e]; simp [e]
  · rw [if_neg e]; simp [e]
theorem cutP_len (C : List Int) (F : Int → Int) : (cutP C F).length ≤ C.length + 1 := by
  unfold cutP
  have := List.length_filter_le (fun x => x != minI) C
  simp
  omega
theorem bnds_len (ns : List Nod) : (bnds ns).length ≤ ns.length := by
  have := nod_count ns; omega
theorem elemEnc {w : World} {aa : Option Addr} {n ca : Nat} {xs : List Int} (h : SlAt w 1 (fun cs x => cs = encI x) (.slice aa n ca) xs) (k : Nat) (hk : k < xs.length) :
    ∃ b off, aa = some ⟨b, off, none⟩ ∧ b < w.heap.size ∧ w.cell? ⟨b, off + k, none⟩ = some (.int .i64 xs[k]) := by
  rcases h with ⟨a, cap, hv, rfl⟩ | ⟨b, off, cap, hv, h0, h1, h2, h3, h4⟩
  · simp at hk
  · simp only [Value.slice.injEq] at hv
    obtain ⟨cs, c1, c2, c3⟩ := h4 k hk
    have := c3 0 (by omega)
    rw [c2] at this
    exact ⟨b, off, hv.1, h3, by simpa [encI] using this⟩
set_option maxRecDepth 100000 in
set_option maxHeartbeats 4000000 in
theorem pieces_any (f : Frs) (F : Int → Int) (hT : Tells f F) (vn va : Value) (w : World) (hf : FrsAt w vn va f) :
    Calls Try.prog 50 #[.agg #[vn, va]] w fun e w' => ∃ v', e = .returned v' ∧ w'.ownsRow w.heap.size 83 2 v' (pcsOf f.nodes F).length ((pcsOf f.nodes F).flatMap encP) ∧ Below w.heap.size w w' := by
  obtain ⟨h0, h8, h2, h3, h4⟩ := frs_good hT.ok
  have HL : Hid (∀ (t : Int) (W : World), Below w.heap.size w W → Calls Try.prog 49 #[.agg #[vn, va], .int .i64 t] W fun e w' => e = .returned (.int .i64 (F t)) ∧ Below W.heap.size W w') :=
    fun t W hb => leaf_any f vn va t (f.nodes.length - 1) (F t) f.answers.length h4 (by omega) (hT.lf t) W (hf.mono hb)
  obtain ⟨an, cn, rfl, ln⟩ := hf.1.shape
  obtain ⟨aa, ca, rfl, la⟩ := hf.2.shape
  obtain ⟨i0, hi, hz0, hz1, hz2⟩ := info_parts info_int
  obtain ⟨ip, hip, hzp0, hzp1, hzp2⟩ := info_parts info_pcZ
  have H8 := Lib.hid h8
  have HN0 := Lib.hid hf.1
  clear hT hf ln la h0 h2 h3 h4
  generalize f.answers.length = na at *
  generalize f.nodes = nodes at *
  go_enter Try.func50, Try.ntmps50
  go_wp2
  have b0 : (w.alloc (.cells #[.slice an nodes.length cn, .slice aa na ca] 26)).cell? ⟨w.heap.size, 0, none⟩ = some (.slice an nodes.length cn) := (World.cell?_alloc_at (w := w) _ _ w.heap.size 0 rfl).trans rfl
  have b1 : (w.alloc (.cells #[.slice an nodes.length cn, .slice aa na ca] 26)).cell? ⟨w.heap.size, 1, none⟩ = some (.slice aa na ca) := (World.cell?_alloc_at (w := w) _ _ w.heap.size 1 rfl).trans rfl
  have bz : w.heap.size < (w.alloc (.cells #[.slice an nodes.length cn, .slice aa na ca] 26)).heap.size := by simp
  have bw : Below w.heap.size w (w.alloc (.cells #[.slice an nodes.length cn, .slice aa na ca] 26)) := (Below.refl _ _).alloc (Nat.le_refl _) _
  generalize w.alloc (.cells #[.slice an nodes.length cn, .slice aa na ca] 26) = W1 at *
  have HN1 := Lib.hid (HN0.out.mono bw fun _ _ h => h)
  have HL1 : Hid (∀ (t : Int) (W : World), Below W1.heap.size W1 W → Calls Try.prog 49 #[.agg #[.slice an nodes.length cn, .slice aa na ca], .int .i64 t] W fun e w' => e = .returned (.int .i64 (F t)) ∧ Below W.heap.size W w') :=
    fun t W hb => HL.out t W (bw.trans (hb.mono (Nat.le_of_lt bz)))
  clear HN0 HL
  go_loopw [3, 12] (fun v t wr => ∃ k : Nat, k ≤ nodes.length ∧ t = .int .i64 k ∧ (∃ xs : List Int, Hid (xs = bnds (nodes.take k)) ∧ wr.ownsRow W1.heap.size 3 1 v xs.length (xs.flatMap encI)) ∧ Below W1.heap.size W1 wr) (fun _ t _ => (nodes.length - intOf t).toNat)
  case atStart => exact ⟨0, by omega, rfl, ⟨[], Lib.hid rfl, World.ownsRow_nil _ _ _ _⟩, Below.refl _ _⟩
  case round =>
    obtain ⟨k, hk, rfl, ⟨xs, hx, hown⟩, hbr⟩ := hrel
    have h8' := H8.out
    have hxl : xs.length ≤ k := by
      rw [hx.out]
      exact Nat.le_trans (bnds_len _) (by rw [List.length_take]; omega)
    by_cases hlt : k < nodes.length
    · obtain ⟨b, off, rfl, hbb, d0, d1, d2, d3, d4⟩ := elemNod HN1.out k hlt
      have hT1 := Lib.hid (bnds_take nodes k hlt)
      have c0 := (hbr.cell (p := ⟨b, off + k * 5, none⟩) hbb).trans d0
      have c1 := (hbr.cell (p := ⟨b, off + k * 5 + 1, none⟩) hbb).trans d1
      have c2 := (hbr.cell (p := ⟨b, off + k * 5 + 2, none⟩) hbb).trans d2
      have c3 := (hbr.cell (p := ⟨b, off + k * 5 + 3, none⟩) hbb).trans d3
      have c4 := (hbr.cell (p := ⟨b, off + k * 5 + 4, none⟩) hbb).trans d4
      clear d0 d1 d2 d3 d4
      generalize nodes[k] = y at *
      have hsz := hbr.size
      cases e : y.lf
      · rw [e] at c0
        have HX : Hid (xs ++ [y.bd] = bnds (nodes.take (k + 1))) := by
          show _ = _
          rw [hT1.out, ← hx.out, e]; rfl
        clear e hT1
        go_wp2_with (at_builtin; refine wpList_append_own _ rfl _ _ 34 rfl W1.heap.size 3 i0 (.int .i64 0) 1 8 Try.underlying34 hi hz0 hz1 hz2 rfl (by decide) _ _ _ rfl ((hown.alloc _).alloc _) ⟨wr.heap.size + 1, 0, none⟩ 1 1 (encI y.bd) rfl rfl (cells_at _ _ _ _ _ (size_alloc _ _).symm rfl) (by intro u hu; simp [encI] at hu; subst hu; rfl) (by unfold maxLen; omega) (by omega) (by rw [size_alloc, size_alloc]; omega) ?_; intro v' w1 hown' hgrow _)
        have hB : Below W1.heap.size W1 w1 := (hbr.trans (below_alloc2 hsz _ _)).grown hgrow (by rw [size_alloc, size_alloc]; omega) (fun g hg => (hown.lt g hg).1)
        have HO := own_snoc hown'
        clear hown' hgrow
        go_wp2
        go_roundw
        case rel => exact ⟨k + 1, by omega, by go_num, ⟨xs ++ [y.bd], HX, HO⟩, hB⟩
        case measure => simp [intOf]; omega
      · rw [e] at c0
        have HX : Hid (xs = bnds (nodes.take (k + 1))) := by
          show _ = _
          rw [hT1.out, ← hx.out, e]; simp
        clear e hT1
        go_wp2
        go_roundw
        case rel => exact ⟨k + 1, by omega, by go_num, ⟨xs, HX, hown.alloc _⟩, hbr.alloc hsz _⟩
        case measure => simp [intOf]; omega
    · have hkx : k = nodes.length := by omega
      have HX : Hid (xs = bnds nodes) := by
        show _ = _
        rw [hx.out, hkx, List.take_of_length_le (Nat.le_refl _)]
      have hxl' : xs.length ≤ 8000 := by rw [HX.out]; exact Nat.le_trans (bnds_len _) h8'
      have HXL := Lib.hid hxl'
      clear hx hxl hxl' hkx
      go_wp2_with fail
      clear hlt
      refine (sort_own _ xs W1.heap.size wr hown (by have := HXL.out; omega)).mono ?_; rintro e w2 ⟨rfl, hown2, hg2⟩
      have hb2 : Below W1.heap.size W1 w2 := hbr.grown hg2 hbr.size (fun g hg => (hown.lt g hg).1)
      clear hbr hown hg2
      go_wp2_with fail
      refine (compact_own _ (srt xs) W1.heap.size w2 hown2).mono ?_; rintro e w3 ⟨v3, rfl, hown3, hg3, -⟩
      have hb3 : Below W1.heap.size W1 w3 := hb2.grown hg3 hb2.size (fun g hg => (hown2.lt g hg).1)
      clear hb2 hown2 hg3
      have HC : Hid (srtC (bnds nodes) = Lib.compact (srt xs)) := by rw [HX.out]; exact rfl
      obtain ⟨C, hC⟩ : ∃ C, C = Lib.compact (srt xs) := ⟨_, rfl⟩
      rw [← hC] at HC hown3
      have HCL : C.length ≤ 8000 := by
        rw [hC]
        refine Nat.le_trans (compact_le _) ?_
        rw [srt_len]; exact HXL.out
      have H83 := Lib.hid HCL
      clear hC HX HXL HCL
      obtain ⟨a3, k3, rfl⟩ := own_shape hown3
      have x0 := (hb3.cell (p := ⟨w.heap.size, 0, none⟩) bz).trans b0
      have x1 := (hb3.cell (p := ⟨w.heap.size, 1, none⟩) bz).trans b1
      go_wp2_with fail
      refine (HL1.out _ _ hb3).mono ?_; rintro e w4 ⟨rfl, hb4⟩
      have hb34 := hb3.trans (hb4.mono hb3.size)
      have hown4 := ownsRow_below hown3 hb4 (Nat.le_refl _)
      have hz4 : W1.heap.size ≤ w4.heap.size := hb34.size
      clear x0 x1 hb3 hb4 hown3
      go_wp2_with fail
      have hOP : (w4.alloc (.cells #[.int .i64 0, .int .i64 (F (-9223372036854775808))] 83)).ownsRow W1.heap.size 83 2 (.slice (some ⟨w4.heap.size, 0, none⟩) 1 1) (cutP (C.take 0) F).length ((cutP (C.take 0) F).flatMap encP) :=
        own_lit1 w4 W1.heap.size 2 83 (encP ⟨0, F minI⟩) hz4 rfl
      have hA4 : Below W1.heap.size W1 (w4.alloc (.cells #[.int .i64 0, .int .i64 (F (-9223372036854775808))] 83)) := hb34.alloc hz4 _
      have hO4 := hown4.alloc (.cells #[.int .i64 0, .int .i64 (F (-9223372036854775808))] 83)
      clear hown4 hb34 hz4
      generalize w4.alloc (.cells #[.int .i64 0, .int .i64 (F (-9223372036854775808))] 83) = w5 at *
      go_loopw [6, 35] (fun v t wr => ∃ k : Nat, k ≤ C.length ∧ t = .int .i64 (k : Int) ∧ Hid (wr.ownsRow W1.heap.size 83 2 v (cutP (C.take k) F).length ((cutP (C.take k) F).flatMap encP)) ∧ Hid (wr.ownsRow W1.heap.size 3 1 (.slice a3 C.length k3) C.length (C.flatMap encI)) ∧ Below W1.heap.size W1 wr) (fun _ t _ => (C.length - intOf t).toNat)
      case atStart => exact ⟨0, by omega, rfl, Lib.hid hOP, Lib.hid hO4, hA4⟩
      case round =>
        clear hOP hA4 hO4
        obtain ⟨q, hq, rfl, hop, hoc, hbr⟩ := hrel
        have h83 := H83.out
        obtain ⟨a6, k6, rfl⟩ := own_shape hop.out
        by_cases hlt : q < C.length
        · have hS : SlAt wr 1 (fun cs x => cs = encI x) (.slice a3 C.length k3) C := slAt_of_own (by omega) (fun _ => rfl) (fun _ _ => rfl) hoc.out
          obtain ⟨b, off, rfl, hbb, d0⟩ := elemEnc hS q hlt
          have hT1 := Lib.hid (cutP_take C F q hlt)
          have hPL := cutP_len (C.take q) F
          rw [List.length_take] at hPL
          have hsz := hbr.size
          have x0 := (hbr.cell (p := ⟨w.heap.size, 0, none⟩) bz).trans b0
          have x1 := (hbr.cell (p := ⟨w.heap.size, 1, none⟩) bz).trans b1
          clear hS
          generalize C[q] = x at *
          by_cases hx : x = minI
          · have hx1 : x = -9223372036854775808 := hx
            have HT2 : Hid (cutP (C.take (q + 1)) F = cutP (C.take q) F) := by
              show _ = _
              rw [hT1.out, if_pos hx, List.append_nil]
            have hop2 : Hid (wr.ownsRow W1.heap.size 83 2 (.slice a6 (cutP (C.take q) F).length k6) (cutP (C.take (q + 1)) F).length ((cutP (C.take (q + 1)) F).flatMap encP)) := by
              show World.ownsRow _ _ _ _ _ _ _
              rw [HT2.out]; exact hop.out
            have hb1 : (x != -9223372036854775808) = false := by rw [hx1]; rfl
            clear hx hx1 hT1 HT2 hPL x0 x1
            generalize (cutP (C.take q) F).length = np at *
            go_wp2_with fail
            go_roundw
            case rel => exact ⟨q + 1, by omega, by go_num, hop2, hoc, hbr⟩
            case measure => simp [intOf]; omega
          · have hb1 : (x != -9223372036854775808) = true := by rw [bne_iff_ne]; exact hx
            have HT2 : Hid (cutP (C.take (q + 1)) F = cutP (C.take q) F ++ [⟨x, F x⟩]) := by
              show _ = _
              rw [hT1.out, if_neg hx]
            clear hx hT1
            generalize cutP (C.take q) F = P at *
            go_wp2_with fail
            refine (HL1.out _ _ hbr).mono ?_; rintro e w6 ⟨rfl, hb6⟩
            have hb7 := hbr.trans (hb6.mono hbr.size)
            have hop6 := ownsRow_below hop.out hb6 (Nat.le_refl _)
            have hoc6 := ownsRow_below hoc.out hb6 (Nat.le_refl _)
            have hz6 : W1.heap.size ≤ w6.heap.size := hb7.size
            have hPL2 : P.length ≤ 8001 := by omega
            clear hb6 hbr x0 x1 d0 hPL
            go_wp2_with (at_builtin; refine wpList_append_own _ rfl _ _ 78 rfl W1.heap.size 83 ip (.agg #[.int .i64 0, .int .i64 0]) 2 16 Try.underlying78 hip hzp0 hzp1 hzp2 rfl (by decide) _ _ _ rfl (hop6.alloc _) ⟨w6.heap.size, 0, none⟩ 1 1 (encP ⟨x, F x⟩) rfl rfl (cells_at _ _ _ _ _ rfl rfl) (encP_one _) (by unfold maxLen; omega) (by omega) (by rw [size_alloc]; omega) ?_; intro v' w7 hown' hgrow _)
            have hB : Below W1.heap.size W1 w7 := (hb7.alloc hz6 _).grown hgrow (by rw [size_alloc]; omega) (fun g hg => (hop6.lt g hg).1)
            have HOP : Hid (w7.ownsRow W1.heap.size 83 2 v' (cutP (C.take (q + 1)) F).length ((cutP (C.take (q + 1)) F).flatMap encP)) := by
              show World.ownsRow _ _ _ _ _ _ _
              rw [HT2.out]; exact own_snocG hown'
            have HOC := Lib.hid ((hoc6.alloc _).kept hgrow (own_apart hoc6 hop6 (by decide)))
            clear hown' hgrow hop6 hoc6 hb7
            go_wp2
            go_roundw
            case rel => exact ⟨q + 1, by omega, by go_num, HOP, HOC, hB⟩
            case measure => simp [intOf]; omega
        · have hqx : q = C.length := by omega
          have HF : Hid (cutP (C.take q) F = pcsOf nodes F) := by
            show _ = _
            rw [hqx, List.take_of_length_le (Nat.le_refl _), ← HC.out]
            exact cutP_all nodes F
          rw [HF.out] at hop
          rw [HF.out]
          clear HF hqx
          go_wp2_with fail
          go_ret
          exact ⟨_, rfl, ownsRow_base (Nat.le_of_lt bz) hop.out, bw.trans (hbr.mono (Nat.le_of_lt bz))⟩
end Go.Proofs.Ytlhidbbphngpcaa
