/-
  What the law of tree.Inverse calls besides: wide, edges; the forest may be.
-/
import Derived.Test.YtlhidbbphngpcaaInvG
import Derived.Test.YtlhidbbphngpcaaInvF
import Derived.Deep.AppendLies
import Derived.Deep.RegionHeld3
namespace Go.Proofs.Ytlhidbbphngpcaa
set_option linter.unusedVariables false
set_option linter.unusedSimpArgs false
open Go.ChangeShapes Go.WideShapes Go.ChangeAt Go.RowKit

theorem tell_small {xs : List Spn} (hb : ∀ j (hj : j < xs.length), SpB xs[j]) (t : Int) (h : bigA (tellA (segs xs) t) = false) : ansE (tellA (segs xs) t) = 0 := by
  obtain ⟨j1, j2⟩ := jump_bd hb t
  have hj : -2208988800 ≤ (tellA (segs xs) t).jump ∧ (tellA (segs xs) t).jump ≤ 4102444800 := by
    show -2208988800 ≤ (if _ then _ else _) ∧ (if _ then _ else _) ≤ _
    split <;> omega
  have h6 : ((tellA (segs xs) t).offs.length : Int) ≤ 6 := by
    unfold bigA at h
    rw [decide_eq_false_iff_not] at h
    omega
  have ho : (tellA (segs xs) t).offs.any oddB = false := by
    rw [List.any_eq_false]
    intro o h2
    obtain ⟨i, hi, rfl⟩ := offs_mem h2
    obtain ⟨_, _, a, b⟩ := hb i hi
    rw [oddB_no a b]
    simp
  have e0 : (tellA (segs xs) t).ck = ⟨0, false, ⟨#[]⟩⟩ := rfl
  generalize tellA (segs xs) t = A at *
  have e1 : ansBad A = false := by
    unfold ansBad
    rw [e0, ho]
    simp [oddB]
    omega
  have e2 : ansBig A = false := by
    unfold ansBig
    rw [e0, Bool.or_eq_false_iff, decide_eq_false_iff_not, decide_eq_false_iff_not]
    refine ⟨by omega, ?_⟩
    show ¬ (24 : Int) < 0
    omega
  unfold ansE
  rw [e1, e2]
  rfl
theorem inv_good {xs : List Spn} (hg : spnE xs = 0) (h : invE xs = false) : frsE (invF xs) = 0 := by
  have hb := spB_of hg
  obtain ⟨n0, n1, -⟩ := spn_good hg
  unfold invE at h
  rw [Bool.or_eq_false_iff, List.any_eq_false, decide_eq_false_iff_not] at h
  obtain ⟨h1, h2⟩ := h
  have hA := invAn_len xs
  have hP := invP_len xs
  have hl : (chN (invP xs)).length = 2 * (atS xs).length + 1 := by
    unfold invP
    rw [chN_len, List.length_mapIdx]
  unfold frsE invF
  dsimp only
  rw [if_neg (by omega), if_neg (by omega)]
  have ha : anssE (invAn xs) = 0 := by
    refine ferr_none _ _ _ fun i hi => ?_
    have hm := List.getElem_mem hi
    have hs : bigA (invAn xs)[i] = false := by simpa using h1 _ hm
    unfold invAn at hm
    rcases List.mem_cons.1 hm with e | hm
    · show ansE (invAn xs)[i] = 0
      rw [show (invAn xs)[i] = _ from e] at hs ⊢
      exact tell_small hb _ hs
    · obtain ⟨t, _, e⟩ := List.mem_map.1 hm
      show ansE (invAn xs)[i] = 0
      rw [show (invAn xs)[i] = _ from e.symm] at hs ⊢
      exact tell_small hb _ hs
  rw [if_neg (by simpa using ha)]
  refine ferr_none _ _ _ fun i hi => ?_
  rw [Nat.zero_add]
  refine chN_good _ (invP xs) (fun p hp => ?_) i hi
  unfold invP at hp
  rcases List.mem_cons.1 hp with rfl | hp
  · show (0 : Int) ≤ 0 ∧ (0 : Int) < _
    omega
  · obtain ⟨j, hj, rfl⟩ := List.mem_iff_getElem.1 hp
    rw [List.length_mapIdx] at hj
    rw [List.getElem_mapIdx]
    show (0 : Int) ≤ (j : Int) + 1 ∧ (j : Int) + 1 < _
    omega
/-- where Inverse is too large, the spans are many, or wide. -/
theorem inv_wide {xs : List Spn} (h : invE xs = true) : 400 < xs.length ∨ ∃ i, ∃ hi : i < xs.length, 6 < (offsAt (segs xs) (segF xs i xs[i]).lo).length := by
  unfold invE at h
  rw [Bool.or_eq_true, List.any_eq_true, decide_eq_true_eq] at h
  rcases h with ⟨A, hA, hb⟩ | h
  · right
    have key : ∀ t, bigA (tellA (segs xs) t) = true → ∃ i, ∃ hi : i < xs.length, 6 < (offsAt (segs xs) (segF xs i xs[i]).lo).length := fun t hb => by
      have h6 : 6 < (offsAt (segs xs) t).length := by
        unfold bigA at hb
        rw [decide_eq_true_eq] at hb
        have : (tellA (segs xs) t).offs = offsAt (segs xs) t := rfl
        rw [this] at hb
        omega
      obtain ⟨s, hs, h7⟩ := wide_at h6
      obtain ⟨i, hi, rfl⟩ := List.mem_iff_getElem.1 hs
      rw [segs_len] at hi
      rw [segs_at xs i hi] at h7
      exact ⟨i, hi, h7⟩
    unfold invAn at hA
    rcases List.mem_cons.1 hA with rfl | hA
    · exact key _ hb
    · obtain ⟨t, _, rfl⟩ := List.mem_map.1 hA
      exact key _ hb
  · left
    rw [invAn_len] at h
    have h3 : (atS xs).length ≤ 2 * xs.length := by
      refine Nat.le_trans (srtC_len _) ?_
      rw [atL_len, segs_len]
      exact Nat.le_refl _
    omega
set_option maxRecDepth 100000 in
set_option maxHeartbeats 2000000 in
theorem wide_true (v : Value) (xs : List Spn) (w : World) (hv : SlAt w 4 RSpn v xs) (hb : ∀ j (hj : j < xs.length), SpB xs[j]) (h1 : xs.length ≤ 1000) (i : Nat) (hi : i < xs.length) (h6 : 6 < (offsAt (segs xs) (segF xs i xs[i]).lo).length) :
    Calls Try.prog 11 #[v] w fun e w' => e = .returned (.bool true) ∧ Below w.heap.size w w' := by
  obtain ⟨an, cn, rfl, ln⟩ := hv.shape
  have ln' := maxLen_eq _ ln
  have HV := Lib.hid hv
  have HB := Lib.hid hb
  have H6 : Hid (i < xs.length ∧ ∀ h : i < xs.length, 6 < (offsAt (segs xs) (segF xs i xs[i]).lo).length) := ⟨hi, fun _ => h6⟩
  clear hv hb ln h6 hi
  go_enter Try.func11, Try.ntmps11
  go_wp2
  go_loopw [3] (fun iv wr => ∃ k : Nat, k ≤ i ∧ iv = .int .i64 (k : Int) ∧ Below w.heap.size w wr) (fun iv _ => (xs.length - intOf iv).toNat)
  case atStart => exact ⟨0, Nat.zero_le _, rfl, Below.refl _ _⟩
  case round =>
    obtain ⟨k, hk, rfl, hbr⟩ := hrel
    have hlt : k < xs.length := Nat.lt_of_le_of_lt hk H6.out.1
    obtain ⟨b, off, rfl, hbb, ⟨c0, c1, -, -⟩, -, -, -⟩ := elemSpn HV.out k hlt
    obtain ⟨p1, p2, p3, p4⟩ := HB.out k hlt
    have m0 := (hbr.cell (p := ⟨b, off + k * 4, none⟩) hbb).trans c0
    have m1 := (hbr.cell (p := ⟨b, off + k * 4 + 1, none⟩) hbb).trans c1
    have hki : (k : Int) < (xs.length : Int) := by omega
    have hki0 : (0 : Int) ≤ (k : Int) := by omega
    have HLO : Hid ((segF xs k xs[k]).lo = xs[k].fr + xs[k].ck.off) := Lib.hid rfl
    have HKI : Hid (k = i → 6 < (offsAt (segs xs) (segF xs k xs[k]).lo).length) := fun e => by subst e; exact H6.out.2 hlt
    have hsz := hbr.size
    clear c0 c1
    generalize (segF xs k xs[k]).lo = lo at *
    generalize xs[k] = x at *
    have hlo : -1099511627776 ≤ x.fr + x.ck.off ∧ x.fr + x.ck.off ≤ 1099511627776 := by omega
    have t5 : IntKind.i64.wrap (x.fr + x.ck.off) = x.fr + x.ck.off := IntWalk.i64_in _ (by omega)
    have HLC := Lib.hid (fun w' (hw : Below w.heap.size w w') => localOf_any _ xs (x.fr + x.ck.off) w' (HV.out.mono hw fun _ _ h => h) HB.out h1 hlo.1 hlo.2)
    clear hlo
    go_wp2_with fail
    go_region_held3 (fun w' => w'.cell? ⟨b, off + k * 4, none⟩ = some (.int .i64 x.fr) ∧ w'.cell? ⟨b, off + k * 4 + 1, none⟩ = some (.int .i64 x.ck.off))
      (first | exact ⟨m0, m1⟩ | exact ⟨s0, s1⟩ | go_keep)
      ((go_at_call 16; refine (HLC.out _ hbr.drew).mono ?_; rintro e w9 ⟨a, c, rfl, ho, hb9⟩; have s0 := (hb9.cell (p := ⟨b, off + k * 4, none⟩) (Nat.lt_of_lt_of_le hbb hsz)).trans m0; have s1 := (hb9.cell (p := ⟨b, off + k * 4 + 1, none⟩) (Nat.lt_of_lt_of_le hbb hsz)).trans m1; have HB9 := Lib.hid (hbr.drew.trans (hb9.mono hsz)); clear hb9 ho))
    rw [← HLO.out]
    clear t5
    by_cases h7 : 6 < (offsAt (segs xs) lo).length
    · have h7i : (6 : Int) < ((offsAt (segs xs) lo).length : Int) := by omega
      clear HKI
      go_wp2_with fail
      go_ret
      exact ⟨rfl, HB9.out⟩
    · have h7i : ¬ (6 : Int) < ((offsAt (segs xs) lo).length : Int) := by omega
      have hne : k + 1 ≤ i := by
        by_cases e : k = i
        · exact absurd (HKI.out e) h7
        · omega
      clear HKI
      go_wp2_with fail
      go_roundw
      case rel => exact ⟨k + 1, hne, by go_num, HB9.out⟩
      case measure => simp [intOf]; omega
set_option maxRecDepth 100000 in
set_option maxHeartbeats 4000000 in
theorem edgesT_any (v : Value) (spn : List Spn) (w : World) (hv : SlAt w 4 RSpn v spn) (hb : ∀ j (hj : j < spn.length), SpB spn[j]) (h1 : spn.length ≤ 1000) :
    Calls Try.prog 14 #[v, .bool true] w fun e w' => ∃ v xs, e = .returned v ∧ SlAt w' 1 RInt v xs ∧ Below w.heap.size w w' := by
  obtain ⟨an, cn, rfl, ln⟩ := hv.shape
  have ln' := maxLen_eq _ ln
  have HN := Lib.hid hv
  have HB := Lib.hid hb
  clear hv ln hb
  obtain ⟨i0, hi, hz0, hz1, hz2⟩ := info_parts info_int
  go_enter Try.func14, Try.ntmps14
  go_wp2
  go_loopw [5, 6] (fun v t wr => ∃ (k : Nat) (xs : List Int), k ≤ spn.length ∧ t = .int .i64 (k : Int) ∧ xs.length ≤ 2 * k ∧ Hid (∀ x ∈ xs, I64 x) ∧ Hid (wr.ownsRow w.heap.size 3 1 v xs.length (xs.flatMap encI)) ∧ Below w.heap.size w wr) (fun _ t _ => (spn.length - intOf t).toNat)
  case atStart => exact ⟨0, [], by omega, rfl, by simp, fun x hx => by simp at hx, World.ownsRow_nil _ _ _ _, Below.refl _ _⟩
  case round =>
    obtain ⟨k, ys, hk, rfl, hx, hx64, hown, hbr⟩ := hrel
    obtain ⟨ao, co, rfl⟩ := own_shape hown.out
    have hsz := hbr.size
    by_cases hlt : k < spn.length
    · obtain ⟨b, off, rfl, hbb, ⟨c0, c1, -, -⟩, -, -, -⟩ := elemSpn HN.out k hlt
      obtain ⟨p1, p2, p3, p4⟩ := HB.out k hlt
      have m0 := (hbr.cell (p := ⟨b, off + k * 4, none⟩) hbb).trans c0
      have m1 := (hbr.cell (p := ⟨b, off + k * 4 + 1, none⟩) hbb).trans c1
      have hki : (k : Int) < (spn.length : Int) := by omega
      have hki0 : (0 : Int) ≤ (k : Int) := by omega
      have hbl : b < wr.heap.size := Nat.lt_of_lt_of_le hbb hsz
      have HPV : Hid (0 < k → ∃ z : Int, w.cell? ⟨b, off + (k - 1) * 4 + 1, none⟩ = some (.int .i64 z) ∧ -172800 ≤ z ∧ z ≤ 172800) := fun h0 => by
        obtain ⟨b', off', hbo, -, ⟨-, d1, -, -⟩, -, -, -⟩ := elemSpn HN.out (k - 1) (by omega)
        obtain ⟨rfl, rfl⟩ : b = b' ∧ off = off' := by simpa using hbo
        obtain ⟨-, -, q3, q4⟩ := HB.out (k - 1) (by omega)
        exact ⟨_, d1, q3, q4⟩
      have M0 := Lib.hid c0
      have M1 := Lib.hid c1
      clear c0 c1
      generalize spn[k] = x at *
      have t5 : IntKind.i64.wrap (x.fr + x.ck.off) = x.fr + x.ck.off := IntWalk.i64_in _ (by omega)
      have HX := Lib.hid hx
      clear hx
      go_wp2_with fail
      go_region_held3 (fun w' => w'.cell? ⟨b, off + k * 4, none⟩ = some (.int .i64 x.fr) ∧ w'.cell? ⟨b, off + k * 4 + 1, none⟩ = some (.int .i64 x.ck.off))
        (first | exact ⟨m0, m1⟩ | exact ⟨s0, s1⟩ | go_keep)
        ((refine step_append_lies _ (by rfl) _ _ _ (by rfl) w.heap.size 3 i0 _ 1 8 Try.underlying34 hi hz0 hz1 hz2 rfl (by omega) (.slice ao ys.length co) ys.length (ys.flatMap encI) (by rfl) ((hown.out.alloc _).drew) ⟨wr.heap.size, 0, none⟩ 1 1 [.int .i64 (x.fr + x.ck.off)] (by rfl) (by rfl) (cells_at _ _ _ _ _ rfl rfl) (by intro u hu; simp at hu; subst hu; rfl) (by omega) (by have := HX.out; unfold maxLen; omega) (by have := HX.out; omega) (Nat.le_trans hsz (size_le_push_ _ _)) (wr.heap.size + 1) (size_alloc _ _) ?_; intro g3 cap3 w3 hown3 hgrow3 hat3 hlt3; have hB3 := hbr.drew.trans (row_low (wx := wr.drew) hown.out hsz hgrow3); have s0 := (hB3.cell (p := ⟨b, off + k * 4, none⟩) hbb).trans M0.out; have s1 := (hB3.cell (p := ⟨b, off + k * 4 + 1, none⟩) hbb).trans M1.out; have HO3 := Lib.hid (own_snoc hown3); have HB3 := Lib.hid hB3; clear hown3 hgrow3 hat3 hlt3 hB3))
      clear t5
      have HN3 : Hid (∀ z ∈ ys ++ [x.fr + x.ck.off], I64 z) := fun z hz => by
        rcases List.mem_append.1 hz with h | h
        · exact hx64.out z h
        · rw [List.mem_singleton.1 h]; exact i64_of (by omega) (by omega)
      by_cases hk0 : k = 0
      · have hki2 : ¬ (0 : Int) < (k : Int) := by omega
        have hki3 : ¬ 0 < k := by omega
        go_wp2_with fail
        refine ⟨⟨1, ys ++ [x.fr + x.ck.off], by omega, rfl, by rw [List.length_append]; have := HX.out; simp; omega, HN3, HO3, HB3.out⟩, ?_⟩
        simp [intOf]
        omega
      · obtain ⟨z, c2, z1, z2⟩ := HPV.out (by omega)
        have hsz3 := HB3.out.size
        have hbl3 : b < w3.heap.size := Nat.lt_of_lt_of_le hbb hsz3
        have m2 := (HB3.out.cell (p := ⟨b, off + (k - 1) * 4 + 1, none⟩) hbb).trans c2
        have hki2 : (0 : Int) < (k : Int) := by omega
        have hki3 : 0 < k := by omega
        have t1 : IntKind.i64.wrap ((k : Int) - 1) = (k : Int) - 1 := IntWalk.i64_in _ (by omega)
        have t2 : ((k : Int) - 1).toNat = k - 1 := by omega
        have t3 : (0 : Int) ≤ (k : Int) - 1 := by omega
        have t4 : (k : Int) - 1 < (spn.length : Int) := by omega
        have t7 : (1 : Int) ≤ (k : Int) := by omega
        have t8 : (k : Int) < (spn.length : Int) + 1 := by omega
        have t6 : IntKind.i64.wrap (x.fr + z) = x.fr + z := IntWalk.i64_in _ (by omega)
        have C2 := Lib.hid c2
        obtain ⟨zs, hzs⟩ : ∃ zs, zs = ys ++ [x.fr + x.ck.off] := ⟨_, rfl⟩
        have hlz : zs.length = ys.length + 1 := by rw [hzs, List.length_append]; rfl
        have HLZ := Lib.hid hlz
        rw [← hzs] at HN3 HO3
        rw [← hlz] at HO3
        rw [← hlz]
        clear c2 hk0 HPV hzs hlz
        go_wp2_with fail
        go_region_held3 (fun w' => w'.cell? ⟨b, off + k * 4, none⟩ = some (.int .i64 x.fr) ∧ w'.cell? ⟨b, off + (k - 1) * 4 + 1, none⟩ = some (.int .i64 z))
          (first | exact ⟨s0, m2⟩ | exact ⟨r0, r1⟩ | go_keep)
          ((refine step_append_lies _ (by rfl) _ _ _ (by rfl) w.heap.size 3 i0 _ 1 8 Try.underlying34 hi hz0 hz1 hz2 rfl (by omega) (.slice (some ⟨g3, 0, none⟩) zs.length cap3) zs.length (zs.flatMap encI) (by rfl) ((HO3.out.alloc _).drew) ⟨w3.heap.size, 0, none⟩ 1 1 [.int .i64 (x.fr + z)] (by rfl) (by rfl) (cells_at _ _ _ _ _ rfl rfl) (by intro u hu; simp at hu; subst hu; rfl) (by omega) (by have := HX.out; have := HLZ.out; unfold maxLen; omega) (by have := HX.out; have := HLZ.out; omega) (Nat.le_trans hsz3 (size_le_push_ _ _)) (w3.heap.size + 1) (size_alloc _ _) ?_; intro g4 cap4 w4 hown4 hgrow4 hat4 hlt4; have hB4 := HB3.out.drew.trans (row_low (wx := w3.drew) HO3.out hsz3 hgrow4); have r0 := (hB4.cell (p := ⟨b, off + k * 4, none⟩) hbb).trans M0.out; have r1 := (hB4.cell (p := ⟨b, off + (k - 1) * 4 + 1, none⟩) hbb).trans C2.out; have HO4 := Lib.hid (own_snoc hown4); have HB4 := Lib.hid hB4; clear hown4 hgrow4 hat4 hlt4 hB4))
        clear t1 t2 t3 t4 t6 t7 t8
        have HN4 : Hid (∀ u ∈ zs ++ [x.fr + z], I64 u) := fun u hu => by
          rcases List.mem_append.1 hu with h | h
          · exact HN3.out u h
          · rw [List.mem_singleton.1 h]; exact i64_of (by omega) (by omega)
        go_wp2_with fail
        go_roundw
        case rel => exact ⟨k + 1, zs ++ [x.fr + z], by omega, by go_num, by rw [List.length_append]; have := HX.out; have := HLZ.out; simp; omega, HN4, HO4, HB4.out⟩
        case measure => simp [intOf]; omega
    · go_wp2
      go_ret
      exact ⟨_, ys, rfl, ints_of_own hx64.out hown.out, hbr⟩
end Go.Proofs.Ytlhidbbphngpcaa
