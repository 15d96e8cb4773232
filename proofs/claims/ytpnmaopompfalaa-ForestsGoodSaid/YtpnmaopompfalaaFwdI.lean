/-
  The law on tree.Forward: the walk.
-/
import Derived.Test.YtpnmaopompfalaaFwdH
namespace Go.Proofs.Ytpnmaopompfalaa
set_option linter.unusedVariables false
set_option linter.unusedSimpArgs false
open Go.ChangeShapes Go.WideShapes Go.ChangeAt Go.RowKit

theorem fwd_eval {xs : List Spn} {t : Int} {i : Nat} (hi : i < xs.length) (hg : spnE xs = 0) (hat : AtSpan xs t xs.length i) (vn va : Value) (w : World) (hf : FrsAt w vn va (fwdF xs)) :
    Calls Try.prog 31 #[.agg #[vn, va], .int .i64 t] w fun e w' => ∃ v', e = .returned (.tuple #[.agg #[.int .i64 xs[i].ck.off, .bool xs[i].ck.sav, .string xs[i].ck.nm, v', .int .i64 0], .int .i64 0]) ∧ SlAt w' 1 RInt v' [] ∧ Below w.heap.size w w' := by
  have hia : i < (fwdF xs).answers.length := by simp [fwdF]; exact hi
  have hea : (fwdF xs).answers[i] = ansOf xs[i] := by simp [fwdF]
  refine (evalOf_ok (fwdF xs) vn va t i w hf (fwd_good hg) (fwd_lf hg hat) hia).mono ?_
  rintro e w' ⟨v', rfl, ho, hb⟩
  rw [hea] at ho ⊢
  exact ⟨v', rfl, ints_of_own (fun x hx => by simp [ansOf] at hx) ho, hb⟩
set_option maxRecDepth 100000 in
set_option maxHeartbeats 4000000 in
theorem walkTreeForwards_bad (v : Value) (xs : List Spn) (n : Int) (w : World) (hv : SlAt w 4 RSpn v xs) (hn : I64 n) (hnil : ∀ n cap, v = .slice none n cap → cap = 0) (hr : xs.length * 40 ≤ 140737488355328) (hbad : spnE xs ≠ 0) :
    Calls Try.prog 7 #[v, .int .i64 n] w fun e w' => e = .returned (.bool true) ∧ Below w.heap.size w w' := by
  obtain ⟨is, his, hzs0, hzs1, hzs2⟩ := info_parts info_spn
  obtain ⟨av, cv, hve, hl⟩ := hv.shape
  have HV := Lib.hid hv
  have HN := Lib.hid hnil
  have HL := Lib.hid hl
  have HB := Lib.hid hbad
  subst hve
  obtain ⟨r, hrr⟩ : ∃ r, r = spnE xs := ⟨_, rfl⟩
  have hne : (r != 0) = true := by rw [bne_iff_ne, hrr]; exact hbad
  have HR := Lib.hid hrr
  clear hv hnil hbad hl hrr
  go_enter Try.func7, Try.ntmps7
  go_wp2_with (at_builtin; refine wpList_append_copy rfl _ _ 37 rfl 87 is (.agg #[.int .i64 0, .int .i64 0, .bool false, .string ⟨#[]⟩]) 4 40 Try.underlying37 his hzs0 hzs1 hzs2 rfl (by decide) rfl _ xs RSpn rfl HV.out HN.out RSpn_one HL.out hr ?_; intro v' w1 hv' hb1)
  refine (forward_bad v' xs _ hv' HB.out).mono ?_; rintro e w2 ⟨rfl, hb2⟩
  have hw2 := hb1.trans (hb2.mono hb1.size)
  clear hb1 hb2 hv'
  have ba := (Below.refl w2.heap.size w2).alloc (Nat.le_refl _) (.cells #[.slice none 0 0, .slice none 0 0] 34)
  have hw3 := hw2.trans (ba.mono hw2.size)
  have hs3 := size_alloc w2 (.cells #[.slice none 0 0, .slice none 0 0] 34)
  have q0 : (w2.alloc (.cells #[.slice none 0 0, .slice none 0 0] 34)).cell? ⟨w2.heap.size, 0, none⟩ = some (.slice none 0 0) := World.cell?_alloc_at (w := w2) _ _ w2.heap.size 0 rfl
  have Q0 := Lib.hid q0
  have HS3 := Lib.hid hs3
  clear q0 hs3 ba
  go_wp2_with fail
  refine (spansFaultP_any _ xs _ (HV.out.mono hw3 fun _ _ h => h)).mono ?_; rintro e w4 ⟨rfl, hb4⟩
  have hz : w2.heap.size < (w2.alloc (.cells #[.slice none 0 0, .slice none 0 0] 34)).heap.size := by rw [HS3.out]; omega
  have q1 : w4.cell? ⟨w2.heap.size, 0, none⟩ = some (.slice none 0 0) := (hb4.cell (p := ⟨w2.heap.size, 0, none⟩) hz).trans Q0.out
  have hw4 := hw3.trans (hb4.mono hw3.size)
  rw [← HR.out]
  clear hb4 hz Q0 HS3
  go_wp2
  go_ret
  exact ⟨ret_bool (by simp), hw4⟩
set_option maxRecDepth 100000 in
set_option maxHeartbeats 4000000 in
theorem walkTreeForwards_good (v : Value) (xs : List Spn) (n : Int) (w : World) (hv : SlAt w 4 RSpn v xs) (hn : I64 n) (hnil : ∀ n cap, v = .slice none n cap → cap = 0) (hr : xs.length * 40 ≤ 140737488355328) (hgood : spnE xs = 0) :
    Calls Try.prog 7 #[v, .int .i64 n] w fun e w' => e = .returned (.bool true) ∧ Below w.heap.size w w' := by
  obtain ⟨is, his, hzs0, hzs1, hzs2⟩ := info_parts info_spn
  obtain ⟨av, cv, hve, hl⟩ := hv.shape
  obtain ⟨hx0, hx1, hxe⟩ := spn_good hgood
  have HI : Hid (∀ i (hi : i < xs.length), I64 xs[i].ck.off ∧ xs[i].ck.nm.size ≤ maxLen) := fun i hi => by
    obtain ⟨cs, _, h1, h2, h3⟩ := hv.all xs[i] (List.getElem_mem hi)
    exact ⟨h2, h3⟩
  have H64 : Hid (∀ n ∈ chN (pcs xs), I64 n.an ∧ I64 n.bd ∧ I64 n.ls ∧ I64 n.mr) := chN_64 (pcs xs) (by rw [pcs_len]; omega) fun p hp => by
    obtain ⟨j, hj, rfl⟩ := List.mem_iff_getElem.1 hp
    have hj' : j < xs.length := by rw [pcs_len] at hj; exact hj
    rw [pcs_at xs j hj']
    obtain ⟨cs, _, h1, _⟩ := hv.all xs[j] (List.getElem_mem hj')
    exact ⟨h1, i64_nat _ (by omega)⟩
  have HV := Lib.hid hv
  have HN := Lib.hid hnil
  have HL := Lib.hid hl
  have HG := Lib.hid hgood
  have HF := Lib.hid (fwd_good hgood)
  have HX := Lib.hid (show 0 < xs.length ∧ xs.length ≤ 1000 from ⟨hx0, hx1⟩)
  have Hn := Lib.hid hn
  subst hve
  clear hv hnil hgood hl hxe hx0 hx1 hn
  go_enter Try.func7, Try.ntmps7
  go_wp2_with (at_builtin; refine wpList_append_copy rfl _ _ 37 rfl 87 is (.agg #[.int .i64 0, .int .i64 0, .bool false, .string ⟨#[]⟩]) 4 40 Try.underlying37 his hzs0 hzs1 hzs2 rfl (by decide) rfl _ xs RSpn rfl HV.out HN.out RSpn_one HL.out hr ?_; intro v' w1 hv' hb1)
  refine (forward_ok v' xs _ hv' HG.out HX.out.1 HX.out.2).mono ?_; rintro e w2 ⟨vn, va, rfl, hon, hoa, hb2⟩
  have hw2 := hb1.trans (hb2.mono hb1.size)
  obtain ⟨cn0, cn1, hvn⟩ := own_shape hon
  obtain ⟨ca0, ca1, hva⟩ := own_shape hoa
  have HFA := Lib.hid (fwd_at HI.out H64.out hon hoa)
  obtain ⟨nn, hnn⟩ : ∃ k, k = (chN (pcs xs)).length := ⟨_, rfl⟩
  obtain ⟨na, hna⟩ : ∃ k, k = (xs.map ansOf).length := ⟨_, rfl⟩
  rw [← hnn] at hvn
  rw [← hna] at hva
  subst hvn hva
  clear hnn hna
  clear hb1 hb2 hv' hon hoa
  have ba := (Below.refl w2.heap.size w2).alloc (Nat.le_refl _) (.cells #[Value.slice cn0 nn cn1, Value.slice ca0 na ca1] 34)
  have hw3 := hw2.trans (ba.mono hw2.size)
  have hs3 := size_alloc w2 (.cells #[Value.slice cn0 nn cn1, Value.slice ca0 na ca1] 34)
  have q0 : (w2.alloc (.cells #[Value.slice cn0 nn cn1, Value.slice ca0 na ca1] 34)).cell? ⟨w2.heap.size, 0, none⟩ = some (.slice cn0 nn cn1) := World.cell?_alloc_at (w := w2) _ _ w2.heap.size 0 rfl
  have q1 : (w2.alloc (.cells #[Value.slice cn0 nn cn1, Value.slice ca0 na ca1] 34)).cell? ⟨w2.heap.size, 1, none⟩ = some (.slice ca0 na ca1) := World.cell?_alloc_at (w := w2) _ _ w2.heap.size 1 rfl
  have Q0 := Lib.hid q0
  have Q1 := Lib.hid q1
  have HS3 := Lib.hid hs3
  have HFA3 := Lib.hid (HFA.out.mono ba)
  clear q0 q1 hs3 HFA
  go_wp2_with fail
  refine (spansFaultP_any _ xs _ (HV.out.mono hw3 fun _ _ h => h)).mono ?_; rintro e w4 ⟨rfl, hb4⟩
  have hz : w2.heap.size < (w2.alloc (.cells #[Value.slice cn0 nn cn1, Value.slice ca0 na ca1] 34)).heap.size := by rw [HS3.out]; omega
  have q0 : w4.cell? ⟨w2.heap.size, 0, none⟩ = some (.slice cn0 nn cn1) := (hb4.cell (p := ⟨w2.heap.size, 0, none⟩) hz).trans Q0.out
  have q1 : w4.cell? ⟨w2.heap.size, 1, none⟩ = some (.slice ca0 na ca1) := (hb4.cell (p := ⟨w2.heap.size, 1, none⟩) hz).trans Q1.out
  have hw4 := hw3.trans (hb4.mono hw3.size)
  have HFA4 := Lib.hid (HFA3.out.mono hb4)
  have hz4 : w2.heap.size < w4.heap.size := Nat.lt_of_lt_of_le hz hb4.size
  rw [HG.out]
  clear hb4 hz Q0 Q1 HS3 HFA3 hw3 ba
  go_wp2_with fail
  refine (fault_any (fwdF xs) _ _ _ HFA4.out).mono ?_; rintro e w5 ⟨rfl, hb5⟩
  have p0 := (hb5.cell (p := ⟨w2.heap.size, 0, none⟩) hz4).trans q0
  have p1 := (hb5.cell (p := ⟨w2.heap.size, 1, none⟩) hz4).trans q1
  have hz5 := Nat.lt_of_lt_of_le hz4 hb5.size
  have hw5 := hw4.trans (hb5.mono hw4.size)
  have HFA5 := Lib.hid (HFA4.out.mono hb5)
  rw [HF.out]
  clear q0 q1 hb5 HFA4 hz4 hw4
  go_wp2_with fail
  refine (edges_any _ xs _ (HV.out.mono hw5 fun _ _ h => h) (by have := HX.out.2; omega)).mono ?_; rintro e w6 ⟨vi, zs, rfl, hvi, hb6⟩
  have q0 := (hb6.cell (p := ⟨w2.heap.size, 0, none⟩) hz5).trans p0
  have q1 := (hb6.cell (p := ⟨w2.heap.size, 1, none⟩) hz5).trans p1
  have hz6 := Nat.lt_of_lt_of_le hz5 hb6.size
  have hw6 := hw5.trans (hb6.mono hw5.size)
  have HFA6 := Lib.hid (HFA5.out.mono hb6)
  have HVI := Lib.hid hvi
  clear p0 p1 hb6 hvi HFA5 hz5 hw5
  go_wp2_with fail
  refine (asked_any vi zs n _ HVI.out Hn.out).mono ?_; rintro e w' ⟨t, _, rfl, rfl⟩
  clear HVI
  cases hb : insB t with
  | false =>
    have HB := Lib.hid hb
    clear hb
    go_wp2_with (go_at_call 30; refine (inside_lit _ _ _ HB.out).mono ?_; rintro e w' ⟨rfl, rfl⟩)
    go_ret
    exact ⟨rfl, hw6⟩
  | true =>
    have HB := Lib.hid hb
    obtain ⟨i, hat⟩ := atSpan_ex xs t HX.out.1 xs.length HX.out.1 (Nat.le_refl _)
    have hi : i < xs.length := hat.1
    have HAT := Lib.hid hat
    have HSP := Lib.hid (fun w hv => spanAt_lit (.slice av xs.length cv) xs t i hi w hv hat)
    have HE := Lib.hid (fwd_eval hi HG.out hat (.slice cn0 nn cn1) (.slice ca0 na ca1) w6 HFA6.out)
    have hnmx := (HI.out i hi).2
    have HNM := Lib.hid hnmx
    clear hb hat hnmx
    generalize xs[i] = x at *
    go_wp2_with (first | (go_at_call 30; refine (inside_lit _ _ _ HB.out).mono ?_; rintro e w' ⟨rfl, rfl⟩) | fail)
    refine HE.out.mono ?_; rintro e w7 ⟨v7, rfl, hs7, hb7⟩
    obtain ⟨a7, c7, rfl, _⟩ := hs7.shape
    have hw7 := hw6.trans (hb7.mono hw6.size)
    have bx := (Below.refl w7.heap.size w7).alloc (Nat.le_refl _) (.cells #[.int .i64 x.ck.off, .bool x.ck.sav, .string x.ck.nm, .slice a7 ([] : List Int).length c7, .int .i64 0] 27)
    have hs8 := size_alloc w7 (.cells #[.int .i64 x.ck.off, .bool x.ck.sav, .string x.ck.nm, .slice a7 ([] : List Int).length c7, .int .i64 0] 27)
    have bj : ∀ j, (w7.alloc (.cells #[.int .i64 x.ck.off, .bool x.ck.sav, .string x.ck.nm, .slice a7 ([] : List Int).length c7, .int .i64 0] 27)).cell? ⟨w7.heap.size, j, none⟩ = _ := fun j => World.cell?_alloc_at (w := w7) _ _ w7.heap.size j rfl
    have j0 := bj 0
    have j1 := bj 1
    have j2 := bj 2
    have j3 := bj 3
    have j4 := bj 4
    have HS7 := Lib.hid (hs7.mono bx fun _ _ h => h)
    have hw8 := hw7.trans (bx.mono hw7.size)
    have hz8 : w7.heap.size < (w7.alloc (.cells #[.int .i64 x.ck.off, .bool x.ck.sav, .string x.ck.nm, .slice a7 ([] : List Int).length c7, .int .i64 0] 27)).heap.size := by omega
    clear hb7 HE bj bx hs7 hs8
    go_wp2_with fail
    simp only [List.length_nil] at j0 j1 j2 j3 j4 HS7 hw8 hz8
    generalize w7.alloc (.cells #[.int .i64 x.ck.off, .bool x.ck.sav, .string x.ck.nm, .slice a7 0 c7, .int .i64 0] 27) = W8 at *
    have e0 : W8.cell? ⟨w7.heap.size, 0, none⟩ = some (.int .i64 x.ck.off) := j0
    have e1 : W8.cell? ⟨w7.heap.size, 1, none⟩ = some (.bool x.ck.sav) := j1
    have e2 : W8.cell? ⟨w7.heap.size, 2, none⟩ = some (.string x.ck.nm) := j2
    have e3 : W8.cell? ⟨w7.heap.size, 3, none⟩ = some (.slice a7 0 c7) := j3
    have e4 : W8.cell? ⟨w7.heap.size, 4, none⟩ = some (.int .i64 0) := j4
    clear j0 j1 j2 j3 j4
    go_region_held3 (fun w' => w'.cell? ⟨w7.heap.size, 0, none⟩ = some (.int .i64 x.ck.off) ∧ w'.cell? ⟨w7.heap.size, 1, none⟩ = some (.bool x.ck.sav) ∧ w'.cell? ⟨w7.heap.size, 2, none⟩ = some (.string x.ck.nm) ∧ w'.cell? ⟨w7.heap.size, 3, none⟩ = some (.slice a7 0 c7) ∧ w'.cell? ⟨w7.heap.size, 4, none⟩ = some (.int .i64 0))
      (first | (with_reducible exact ⟨e0, e1, e2, e3, e4⟩) | (with_reducible exact ⟨s0, s1, s2, s3, s4⟩) | (with_reducible exact ⟨t0, t1, t2, t3, t4⟩) | go_keep)
      (first | (go_at_call 33; refine (HSP.out _ (HV.out.mono hw8.drew fun _ _ h => h)).mono ?_; rintro e w9 ⟨rfl, hb9⟩; have s0 := (hb9.cell (p := ⟨w7.heap.size, 0, none⟩) hz8).trans e0; have s1 := (hb9.cell (p := ⟨w7.heap.size, 1, none⟩) hz8).trans e1; have s2 := (hb9.cell (p := ⟨w7.heap.size, 2, none⟩) hz8).trans e2; have s3 := (hb9.cell (p := ⟨w7.heap.size, 3, none⟩) hz8).trans e3; have s4 := (hb9.cell (p := ⟨w7.heap.size, 4, none⟩) hz8).trans e4; have HS9 := Lib.hid ((HS7.out.mono ((Below.refl _ _).drew) fun _ _ h => h).mono hb9 fun _ _ h => h); have hz9 := Nat.lt_of_lt_of_le hz8 hb9.size; have hw9 := hw8.drew.trans (hb9.mono hw8.size); clear hb9 e0 e1 e2 e3 e4) | (go_at_call 32; refine (sameAnswer_same ⟨x.ck, [], 0⟩ _ _ _ HS9.out (SlAt_nil _) HNM.out).mono ?_; rintro e w10 ⟨rfl, hb10⟩; have t0 := (hb10.cell (p := ⟨w7.heap.size, 0, none⟩) hz9).trans s0; have t1 := (hb10.cell (p := ⟨w7.heap.size, 1, none⟩) hz9).trans s1; have t2 := (hb10.cell (p := ⟨w7.heap.size, 2, none⟩) hz9).trans s2; have t3 := (hb10.cell (p := ⟨w7.heap.size, 3, none⟩) hz9).trans s3; have t4 := (hb10.cell (p := ⟨w7.heap.size, 4, none⟩) hz9).trans s4; have hw10 := hw9.trans (hb10.mono hw9.size); clear hb10 s0 s1 s2 s3 s4))
    go_wp2
    go_ret
    exact ⟨rfl, hw10⟩
theorem walkTreeForwards (v : Value) (xs : List Spn) (n : Int) (w : World) (hv : SlAt w 4 RSpn v xs) (hn : I64 n) (hr : xs.length * 40 ≤ 140737488355328 ∧ ∀ n cap, v = .slice none n cap → cap = 0) :
    Calls Try.prog 7 #[v, .int .i64 n] w fun e w' => e = .returned (.bool true) ∧ Below w.heap.size w w' := by
  by_cases h : spnE xs = 0
  · exact walkTreeForwards_good v xs n w hv hn hr.2 hr.1 h
  · exact walkTreeForwards_bad v xs n w hv hn hr.2 hr.1 h
end Go.Proofs.Ytpnmaopompfalaa
