/-
  sundialref.LocalOf.
-/
import Derived.Test.YtlhidbbphngpcaaInvB
namespace Go.Proofs.Ytlhidbbphngpcaa
set_option linter.unusedVariables false
set_option linter.unusedSimpArgs false
open Go.ChangeShapes Go.WideShapes Go.ChangeAt Go.RowKit

theorem offs_takeF (xs : List Spn) (t : Int) (k : Nat) (h : k < xs.length) : offsAt ((segs xs).take (k + 1)) t = offsAt ((segs xs).take k) t ++ (if inS t (segF xs k xs[k]) = true then [xs[k].ck.off] else []) := by
  unfold offsAt
  rw [segs_take xs k h, List.filter_append, List.map_append]
  congr 1
  by_cases hb : inS t (segF xs k xs[k]) = true
  · rw [if_pos hb, List.filter_cons_of_pos hb, List.filter_nil]; rfl
  · rw [if_neg hb, List.filter_cons_of_neg hb, List.filter_nil]; rfl
def jf (ss : List Seg) (t : Int) : Int × Bool := match ss.find? (fun s => decide (t < s.lo)) with | some s => (s.fr, true) | none => (4102444800, false)
theorem jf_fst (ss : List Seg) (t : Int) : (jf ss t).1 = jumpAt ss t := by
  unfold jf jumpAt
  cases ss.find? (fun s => decide (t < s.lo)) <;> rfl
theorem jf_snoc (ss : List Seg) (t : Int) (s : Seg) : jf (ss ++ [s]) t = if (jf ss t).2 = true then jf ss t else if t < s.lo then (s.fr, true) else jf ss t := by
  unfold jf
  rw [List.find?_append]
  cases h : ss.find? (fun s => decide (t < s.lo)) with
  | some a => simp
  | none =>
    by_cases hl : t < s.lo
    · simp [hl]
    · simp [hl]
theorem jf_take (xs : List Spn) (t : Int) (k : Nat) (h : k < xs.length) : jf ((segs xs).take (k + 1)) t = if (jf ((segs xs).take k) t).2 = true then jf ((segs xs).take k) t else if t < (segF xs k xs[k]).lo then (xs[k].fr, true) else jf ((segs xs).take k) t := by
  rw [segs_take xs k h, jf_snoc]
  rfl
set_option maxRecDepth 100000 in
set_option maxHeartbeats 4000000 in
theorem localOf_any (v : Value) (xs : List Spn) (t : Int) (w : World) (hv : SlAt w 4 RSpn v xs) (hb : ∀ j (hj : j < xs.length), SpB xs[j]) (h1 : xs.length ≤ 1000) (t0 : -1099511627776 ≤ t) (t1 : t ≤ 1099511627776) :
    Calls Try.prog 16 #[v, .int .i64 t] w fun e w' => ∃ a c, e = .returned (.tuple #[.slice a (offsAt (segs xs) t).length c, .int .i64 (tellA (segs xs) t).jump]) ∧ w'.ownsRow w.heap.size 3 1 (.slice a (offsAt (segs xs) t).length c) (offsAt (segs xs) t).length ((offsAt (segs xs) t).flatMap encI) ∧ Below w.heap.size w w' := by
  obtain ⟨an, cn, rfl, ln⟩ := hv.shape
  have ln' := maxLen_eq _ ln
  obtain ⟨i0, hi, hzi0, hzi1, hzi2⟩ := info_parts info_int
  have HV := Lib.hid hv
  have HBD := Lib.hid hb
  clear hv hb ln
  go_enter Try.func16, Try.ntmps16
  go_wp2_with (go_at_call 45; refine (winOf _).mono ?_; rintro e w' ⟨rfl, rfl⟩)
  go_loopw [8, 9, 10, 11] (fun vo jv fv iv wr => ∃ (k : Nat) (ys : List Int) (j : Int) (fb : Bool), k ≤ xs.length ∧ iv = .int .i64 (k : Int) ∧ jv = .int .i64 j ∧ fv = .bool fb ∧ Hid (wr.ownsRow w.heap.size 3 1 vo ys.length (ys.flatMap encI)) ∧ Hid (ys = offsAt ((segs xs).take k) t) ∧ Hid (jf ((segs xs).take k) t = (j, fb)) ∧ ys.length ≤ k ∧ Below w.heap.size w wr) (fun _ _ _ iv _ => (xs.length - intOf iv).toNat)
  case atStart => exact ⟨0, [], _, false, by omega, rfl, rfl, rfl, World.ownsRow_nil _ _ _ _, rfl, rfl, Nat.le_refl _, Below.refl _ _⟩
  case round =>
    obtain ⟨k, ys, j, fb, hk, rfl, rfl, rfl, hO, hY, hJ, hyl, hbr⟩ := hrel
    obtain ⟨ao, co, rfl⟩ := own_shape hO.out
    by_cases hlt : k < xs.length
    · obtain ⟨b, off, rfl, hbb, ⟨c0, c1, -, -⟩, -, -, -⟩ := elemSpn HV.out k hlt
      obtain ⟨p1, p2, p3, p4⟩ := HBD.out k hlt
      obtain ⟨q1, q2⟩ := nextF_bd HBD.out k
      have m0 := (hbr.cell (p := ⟨b, off + k * 4, none⟩) hbb).trans c0
      have m1 := (hbr.cell (p := ⟨b, off + k * 4 + 1, none⟩) hbb).trans c1
      have hki : (k : Int) < (xs.length : Int) := by omega
      have HLO : Hid ((segF xs k xs[k]).lo = xs[k].fr + xs[k].ck.off) := Lib.hid rfl
      have HIN : Hid (∀ r : Bool, (decide (xs[k].fr + xs[k].ck.off ≤ t) && decide (t < nextF xs k + xs[k].ck.off)) = r → inS t (segF xs k xs[k]) = r) := fun r h => h
      have HTK := Lib.hid (offs_takeF xs t k hlt)
      have HJK := Lib.hid (jf_take xs t k hlt)
      have hnx : (k + 1 < xs.length ∧ wr.cell? ⟨b, off + (k + 1) * 4, none⟩ = some (.int .i64 (nextF xs k))) ∨ (¬ k + 1 < xs.length ∧ nextF xs k = 4102444800) := by
        by_cases h : k + 1 < xs.length
        · obtain ⟨b', off', hbo, hbb', ⟨d0, -⟩, -⟩ := elemSpn HV.out (k + 1) h
          obtain ⟨rfl, rfl⟩ : b = b' ∧ off = off' := by simpa using hbo
          refine .inl ⟨h, ?_⟩
          rw [show nextF xs k = xs[k + 1].fr by unfold nextF; rw [List.getElem?_eq_getElem h]]
          exact (hbr.cell (p := ⟨b, off + (k + 1) * 4, none⟩) hbb').trans d0
        · exact .inr ⟨h, by unfold nextF; rw [List.getElem?_eq_none (by omega)]⟩
      have t2 : ((k : Int) + 1).toNat = k + 1 := by omega
      have hsz := hbr.size
      clear c0 c1
      generalize nextF xs k = nx at *
      generalize segF xs k xs[k] = sg at *
      generalize xs[k] = x at *
      obtain ⟨xfr, xck⟩ := x
      obtain ⟨xo, xsv, xnm⟩ := xck
      dsimp only at *
      have key : (xfr ≤ t - xo ∧ t - xo < nx) ∨ (t - xo < xfr) ∨ (xfr ≤ t - xo ∧ nx ≤ t - xo) := by omega
      rcases key with ⟨u1, u2⟩ | u1 | ⟨u1, u2⟩
      · have HT2 : Hid (offsAt ((segs xs).take (k + 1)) t = ys ++ [xo]) := by
          show _ = _
          rw [HTK.out, if_pos (HIN.out true (by simp; omega)), ← hY.out]
        have HJ2 : Hid (jf ((segs xs).take (k + 1)) t = (j, fb)) := by
          show _ = _
          rw [HJK.out, hJ.out]
          cases fb
          · rw [if_neg (by simp), if_neg (by rw [HLO.out]; omega)]
          · rw [if_pos rfl]
        have u3 : -2208988800 ≤ t - xo := by omega
        have u4 : ¬ t - xo < xfr := by omega
        clear HTK HJK HIN HLO hJ hY
        rcases hnx with ⟨g1, g2⟩ | ⟨g1, rfl⟩
        · have g3 : (k : Int) + 1 < (xs.length : Int) := by omega
          cases fb
          all_goals
            go_wp2_with (at_builtin; refine wpList_append_own _ rfl _ _ 34 rfl w.heap.size 3 i0 (.int .i64 0) 1 8 Try.underlying34 hi hzi0 hzi1 hzi2 rfl (by decide) _ _ _ rfl (hO.out.alloc _) ⟨wr.heap.size, 0, none⟩ 1 1 [.int .i64 xo] rfl rfl (cells_at _ _ _ _ _ rfl rfl) (by intro u hu; simp at hu; subst hu; rfl) (by unfold maxLen; omega) (by omega) (by rw [size_alloc]; omega) ?_; intro v' w6 hown' hgrow _; have HO7 := Lib.hid (own_snoc hown'); have hB := Lib.hid (hbr.trans (append_keep hO.out ((Below.refl _ _).alloc hsz _) hsz hgrow)); have hbc := (hB.out.cell (p := ⟨b, off + k * 4, none⟩) hbb); have z0 := (append_keep hO.out ((Below.refl _ _).alloc hsz _) hsz hgrow).cell (p := ⟨b, off + k * 4, none⟩) hbb; have z1 := z0.trans m0; clear hown' hgrow hbc z0)
            go_roundw
            case rel => exact ⟨k + 1, ys ++ [xo], _, _, by omega, by go_num, rfl, rfl, HO7, Lib.hid HT2.out.symm, HJ2, by rw [List.length_append]; simp; omega, hB.out⟩
            case measure => simp [intOf]; omega
        · have g3 : ¬ (k : Int) + 1 < (xs.length : Int) := by omega
          cases fb
          all_goals
            go_wp2_with (at_builtin; refine wpList_append_own _ rfl _ _ 34 rfl w.heap.size 3 i0 (.int .i64 0) 1 8 Try.underlying34 hi hzi0 hzi1 hzi2 rfl (by decide) _ _ _ rfl (hO.out.alloc _) ⟨wr.heap.size, 0, none⟩ 1 1 [.int .i64 xo] rfl rfl (cells_at _ _ _ _ _ rfl rfl) (by intro u hu; simp at hu; subst hu; rfl) (by unfold maxLen; omega) (by omega) (by rw [size_alloc]; omega) ?_; intro v' w6 hown' hgrow _; have HO7 := Lib.hid (own_snoc hown'); have hB := Lib.hid (hbr.trans (append_keep hO.out ((Below.refl _ _).alloc hsz _) hsz hgrow)); have z0 := (append_keep hO.out ((Below.refl _ _).alloc hsz _) hsz hgrow).cell (p := ⟨b, off + k * 4, none⟩) hbb; have z1 := z0.trans m0; clear hown' hgrow z0)
            go_roundw
            case rel => exact ⟨k + 1, ys ++ [xo], _, _, by omega, by go_num, rfl, rfl, HO7, Lib.hid HT2.out.symm, HJ2, by rw [List.length_append]; simp; omega, hB.out⟩
            case measure => simp [intOf]; omega
      · have HT2 : Hid (offsAt ((segs xs).take (k + 1)) t = ys) := by
          show _ = _
          rw [HTK.out, if_neg (by rw [HIN.out false (by simp; omega)]; simp), ← hY.out, List.append_nil]
        have HJ2 : Hid (jf ((segs xs).take (k + 1)) t = if fb = true then (j, fb) else (xfr, true)) := by
          show _ = _
          rw [HJK.out, hJ.out]
          cases fb
          · rw [if_neg (by simp), if_pos (by rw [HLO.out]; omega)]; rfl
          · rfl
        have u4 : ¬ xfr ≤ t - xo := by omega
        clear HTK HJK HIN HLO hJ hY
        rcases hnx with ⟨g1, g2⟩ | ⟨g1, rfl⟩
        · have g3 : (k : Int) + 1 < (xs.length : Int) := by omega
          cases fb
          · have HJ3 : Hid (jf ((segs xs).take (k + 1)) t = (xfr, true)) := HJ2.out
            clear HJ2
            go_wp2
            go_roundw
            case rel => exact ⟨k + 1, ys, _, _, by omega, by go_num, rfl, rfl, hO, Lib.hid HT2.out.symm, HJ3, by omega, hbr⟩
            case measure => simp [intOf]; omega
          · have HJ3 : Hid (jf ((segs xs).take (k + 1)) t = (j, true)) := HJ2.out
            clear HJ2
            go_wp2
            go_roundw
            case rel => exact ⟨k + 1, ys, _, _, by omega, by go_num, rfl, rfl, hO, Lib.hid HT2.out.symm, HJ3, by omega, hbr⟩
            case measure => simp [intOf]; omega
        · have g3 : ¬ (k : Int) + 1 < (xs.length : Int) := by omega
          cases fb
          · have HJ3 : Hid (jf ((segs xs).take (k + 1)) t = (xfr, true)) := HJ2.out
            clear HJ2
            go_wp2
            go_roundw
            case rel => exact ⟨k + 1, ys, _, _, by omega, by go_num, rfl, rfl, hO, Lib.hid HT2.out.symm, HJ3, by omega, hbr⟩
            case measure => simp [intOf]; omega
          · have HJ3 : Hid (jf ((segs xs).take (k + 1)) t = (j, true)) := HJ2.out
            clear HJ2
            go_wp2
            go_roundw
            case rel => exact ⟨k + 1, ys, _, _, by omega, by go_num, rfl, rfl, hO, Lib.hid HT2.out.symm, HJ3, by omega, hbr⟩
            case measure => simp [intOf]; omega
      · have HT2 : Hid (offsAt ((segs xs).take (k + 1)) t = ys) := by
          show _ = _
          rw [HTK.out, if_neg (by rw [HIN.out false (by simp; omega)]; simp), ← hY.out, List.append_nil]
        have HJ2 : Hid (jf ((segs xs).take (k + 1)) t = (j, fb)) := by
          show _ = _
          rw [HJK.out, hJ.out]
          cases fb
          · rw [if_neg (by simp), if_neg (by rw [HLO.out]; omega)]
          · rw [if_pos rfl]
        have u4 : ¬ t - xo < xfr := by omega
        have u5 : ¬ t - xo < nx := by omega
        clear HTK HJK HIN HLO hJ hY
        rcases hnx with ⟨g1, g2⟩ | ⟨g1, rfl⟩
        · have g3 : (k : Int) + 1 < (xs.length : Int) := by omega
          cases fb
          all_goals
            go_wp2
            go_roundw
            case rel => exact ⟨k + 1, ys, _, _, by omega, by go_num, rfl, rfl, hO, Lib.hid HT2.out.symm, HJ2, by omega, hbr⟩
            case measure => simp [intOf]; omega
        · have g3 : ¬ (k : Int) + 1 < (xs.length : Int) := by omega
          cases fb
          all_goals
            go_wp2
            go_roundw
            case rel => exact ⟨k + 1, ys, _, _, by omega, by go_num, rfl, rfl, hO, Lib.hid HT2.out.symm, HJ2, by omega, hbr⟩
            case measure => simp [intOf]; omega
    · have hkx : k = xs.length := by omega
      have et : (segs xs).take k = segs xs := List.take_of_length_le (by rw [segs_len]; omega)
      have hY2 := hY.out
      have hJ2 := hJ.out
      rw [et] at hY2 hJ2
      have hj : jumpAt (segs xs) t = j := by rw [← jf_fst, hJ2]
      have HO := hO
      have HY := Lib.hid hY2
      have HTJ : Hid ((tellA (segs xs) t).jump = if ys.length = 0 then j else 0) := by
        show (if (offsAt (segs xs) t).length = 0 then jumpAt (segs xs) t else 0) = _
        rw [hj, ← HY.out]
      clear hY hJ hJ2 et hj hY2 hO
      cases ys with
      | nil =>
        have HT : Hid ((tellA (segs xs) t).jump = j) := HTJ.out
        clear HTJ
        go_wp2
        go_ret2
        rw [HT.out, ← HY.out]
        exact ⟨ao, co, rfl, HO.out, hbr⟩
      | cons o os =>
        have HT : Hid ((tellA (segs xs) t).jump = 0) := by
          show _ = _
          rw [HTJ.out, if_neg (by simp)]
        have hp : (0 : Int) < ((o :: os).length : Int) := Int.natCast_pos.2 (by simp)
        have hp2 : 0 < (o :: os).length := by simp
        clear HTJ
        generalize o :: os = os at *
        go_wp2
        go_ret2
        rw [HT.out, ← HY.out]
        exact ⟨ao, co, rfl, HO.out, hbr⟩
end Go.Proofs.Ytlhidbbphngpcaa
