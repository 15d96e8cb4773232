/-
  The law of tree.Inverse.
-/
import Derived.Test.YtlhidbbphngpcaaInvH
namespace Go.Proofs.Ytlhidbbphngpcaa
set_option linter.unusedVariables false
set_option linter.unusedSimpArgs false
open Go.ChangeShapes Go.WideShapes Go.ChangeAt Go.RowKit

theorem inv_evalOf {xs : List Spn} (hg : spnE xs = 0) (hE : invE xs = false) (t : Int) (vn va : Value) (w : World) (hf : FrsAt w vn va (invF xs)) :
    Calls Try.prog 15 #[.agg #[vn, va], .int .i64 t] w fun e w' => ∃ a c, e = .returned (.tuple #[.agg #[.int .i64 0, .bool false, .string ⟨#[]⟩, .slice a (tellA (segs xs) t).offs.length c, .int .i64 (tellA (segs xs) t).jump], .int .i64 0]) ∧ SlAt w' 1 RInt (.slice a (tellA (segs xs) t).offs.length c) (tellA (segs xs) t).offs ∧ Below w.heap.size w w' := by
  obtain ⟨n0, n1, -⟩ := spn_good hg
  obtain ⟨i, hi, hL, he⟩ := inv_lf n0 t
  have hok := invAn_ok (spB_of hg) _ (List.getElem_mem hi)
  refine (evalOf_ok (invF xs) vn va t i w hf (inv_good hg hE) hL hi).mono ?_
  have hea : (invF xs).answers[i]'hi = tellA (segs xs) t := he
  rw [hea]
  rw [he] at hok
  rintro e w' ⟨v', rfl, ho, hb⟩
  obtain ⟨a, c, rfl⟩ := own_shape ho
  exact ⟨a, c, rfl, ints_of_own hok.2.2.2 ho, hb⟩
theorem InvR.shape {xs : List Spn} {w w' : World} {e : Ending} (h : InvR xs w e w') (hE : invE xs = false) : ∃ a c a' c', e = .returned (.tuple #[.agg #[.slice a (invF xs).nodes.length c, .slice a' (invF xs).answers.length c'], .int .i64 0]) ∧ FrsAt w' (.slice a (invF xs).nodes.length c) (.slice a' (invF xs).answers.length c') (invF xs) ∧ Below w.heap.size w w' := by
  rcases h with ⟨h, _⟩ | ⟨_, h⟩
  · rw [hE] at h; cases h
  · exact h
theorem InvR.big {xs : List Spn} {w w' : World} {e : Ending} (h : InvR xs w e w') (hE : invE xs = true) : e = .returned (.tuple #[.agg #[.slice none 0 0, .slice none 0 0], .int .i64 1]) ∧ Below w.heap.size w w' := by
  rcases h with ⟨_, h⟩ | ⟨h, _⟩
  · exact h
  · rw [hE] at h; cases h
set_option maxRecDepth 100000 in
set_option maxHeartbeats 4000000 in
theorem walkTreeInverses_bad (v : Value) (xs : List Spn) (n : Int) (w : World) (hv : SlAt w 4 RSpn v xs) (hnil : ∀ n cap, v = .slice none n cap → cap = 0) (hr : xs.length * 40 ≤ 140737488355328) (hbad : spnE xs ≠ 0) :
    Calls Try.prog 3 #[v, .int .i64 n] w fun e w' => e = .returned (.bool true) ∧ Below w.heap.size w w' := by
  obtain ⟨is, his, hzs0, hzs1, hzs2⟩ := info_parts info_spn
  obtain ⟨av, cv, hve, hl⟩ := hv.shape
  have HV := Lib.hid hv
  have HN := Lib.hid hnil
  have HL := Lib.hid hl
  have HB := Lib.hid hbad
  subst hve
  obtain ⟨r, hrr⟩ : ∃ r, r = spnE xs := ⟨_, rfl⟩
  have hne : (r != 0) = true := by rw [bne_iff_ne, hrr]; exact hbad
  have HR := Lib.hid hrr
  clear hv hnil hbad hl hrr
  go_enter Try.func3, Try.ntmps3
  go_wp2_with (at_builtin; refine wpList_append_copy rfl _ _ 22 rfl 50 is (.agg #[.int .i64 0, .int .i64 0, .bool false, .string ⟨#[]⟩]) 4 40 Try.underlying22 his hzs0 hzs1 hzs2 rfl (by decide) rfl _ xs RSpn rfl HV.out HN.out RSpn_one HL.out hr ?_; intro v' w1 hv' hb1)
  refine (inverse_bad v' xs _ hv' HB.out).mono ?_; rintro e w2 ⟨rfl, hb2⟩
  have hw2 := hb1.trans (hb2.mono hb1.size)
  clear hb1 hb2 hv'
  have ba := (Below.refl w2.heap.size w2).alloc (Nat.le_refl _) (.cells #[.slice none 0 0, .slice none 0 0] 26)
  have hw3 := hw2.trans (ba.mono hw2.size)
  have hs3 := size_alloc w2 (.cells #[.slice none 0 0, .slice none 0 0] 26)
  have q0 : (w2.alloc (.cells #[.slice none 0 0, .slice none 0 0] 26)).cell? ⟨w2.heap.size, 0, none⟩ = some (.slice none 0 0) := World.cell?_alloc_at (w := w2) _ _ w2.heap.size 0 rfl
  have Q0 := Lib.hid q0
  have HS3 := Lib.hid hs3
  clear q0 hs3 ba
  go_wp2_with fail
  refine (spansFaultP_any _ xs _ (HV.out.mono hw3 fun _ _ h => h)).mono ?_; rintro e w4 ⟨rfl, hb4⟩
  have hz : w2.heap.size < (w2.alloc (.cells #[.slice none 0 0, .slice none 0 0] 26)).heap.size := by rw [HS3.out]; omega
  have q1 : w4.cell? ⟨w2.heap.size, 0, none⟩ = some (.slice none 0 0) := (hb4.cell (p := ⟨w2.heap.size, 0, none⟩) hz).trans Q0.out
  have hw4 := hw3.trans (hb4.mono hw3.size)
  rw [← HR.out]
  clear hb4 hz Q0 HS3
  go_wp2
  go_ret
  exact ⟨ret_bool (by simp), hw4⟩
set_option maxRecDepth 100000 in
set_option maxHeartbeats 4000000 in
theorem walkTreeInverses_big (v : Value) (xs : List Spn) (n : Int) (w : World) (hv : SlAt w 4 RSpn v xs) (hnil : ∀ n cap, v = .slice none n cap → cap = 0) (hr : xs.length * 40 ≤ 140737488355328) (hgood : spnE xs = 0) (hE : invE xs = true) :
    Calls Try.prog 3 #[v, .int .i64 n] w fun e w' => e = .returned (.bool true) ∧ Below w.heap.size w w' := by
  obtain ⟨is, his, hzs0, hzs1, hzs2⟩ := info_parts info_spn
  obtain ⟨av, cv, hve, hl⟩ := hv.shape
  obtain ⟨n0, n1, -⟩ := spn_good hgood
  have HBD := Lib.hid (spB_of hgood)
  have HW := Lib.hid (inv_wide hE)
  have HV := Lib.hid hv
  have HN := Lib.hid hnil
  have HL := Lib.hid hl
  have HG := Lib.hid hgood
  have HE := Lib.hid hE
  subst hve
  clear hv hnil hgood hl hE
  go_enter Try.func3, Try.ntmps3
  go_wp2_with (at_builtin; refine wpList_append_copy rfl _ _ 22 rfl 50 is (.agg #[.int .i64 0, .int .i64 0, .bool false, .string ⟨#[]⟩]) 4 40 Try.underlying22 his hzs0 hzs1 hzs2 rfl (by decide) rfl _ xs RSpn rfl HV.out HN.out RSpn_one HL.out hr ?_; intro v' w1 hv' hb1)
  refine (inverse_ok v' xs _ hv' HG.out).mono ?_; intro e w2 hIR
  obtain ⟨rfl, hb2⟩ := hIR.big HE.out
  have hw2 := hb1.trans (hb2.mono hb1.size)
  clear hb1 hb2 hv' hIR
  have hw3 := hw2.alloc hw2.size (.cells #[.slice none 0 0, .slice none 0 0] 26)
  have HW3 := Lib.hid hw3
  clear hw3
  go_wp2_with fail
  refine (spansFaultP_any _ xs _ (HV.out.mono HW3.out fun _ _ h => h)).mono ?_; rintro e w4 ⟨rfl, hb4⟩
  have hw4 := HW3.out.trans (hb4.mono HW3.out.size)
  rw [HG.out]
  clear hb4
  by_cases h4 : 400 < xs.length
  · have h4i : (400 : Int) < (xs.length : Int) := by omega
    go_wp2_with fail
    go_ret
    exact ⟨rfl, hw4⟩
  · have h4i : ¬ (400 : Int) < (xs.length : Int) := by omega
    obtain ⟨i, hi, h6⟩ := HW.out.resolve_left h4
    have HWD := Lib.hid (wide_true (.slice av xs.length cv) xs w4 (HV.out.mono hw4 fun _ _ h => h) HBD.out n1 i hi h6)
    clear h6 hi HW h4
    go_wp2_with fail
    refine HWD.out.mono ?_; rintro e w5 ⟨rfl, hb5⟩
    have hw5 := hw4.trans (hb5.mono hw4.size)
    clear hb5
    go_wp2_with fail
    go_ret
    exact ⟨rfl, hw5⟩
set_option maxRecDepth 100000 in
set_option maxHeartbeats 4000000 in
theorem walkTreeInverses_good (v : Value) (xs : List Spn) (n : Int) (w : World) (hv : SlAt w 4 RSpn v xs) (hn : I64 n) (hnil : ∀ n cap, v = .slice none n cap → cap = 0) (hr : xs.length * 40 ≤ 140737488355328) (hgood : spnE xs = 0) (hE : invE xs = false) :
    Calls Try.prog 3 #[v, .int .i64 n] w fun e w' => e = .returned (.bool true) ∧ Below w.heap.size w w' := by
  obtain ⟨is, his, hzs0, hzs1, hzs2⟩ := info_parts info_spn
  obtain ⟨av, cv, hve, hl⟩ := hv.shape
  obtain ⟨n0, n1, -⟩ := spn_good hgood
  have HBD := Lib.hid (spB_of hgood)
  have HV := Lib.hid hv
  have HN := Lib.hid hnil
  have HL := Lib.hid hl
  have HG := Lib.hid hgood
  have HE := Lib.hid hE
  have HF := Lib.hid (inv_good hgood hE)
  have Hn := Lib.hid hn
  subst hve
  clear hv hnil hgood hl hE hn
  go_enter Try.func3, Try.ntmps3
  go_wp2_with (at_builtin; refine wpList_append_copy rfl _ _ 22 rfl 50 is (.agg #[.int .i64 0, .int .i64 0, .bool false, .string ⟨#[]⟩]) 4 40 Try.underlying22 his hzs0 hzs1 hzs2 rfl (by decide) rfl _ xs RSpn rfl HV.out HN.out RSpn_one HL.out hr ?_; intro v' w1 hv' hb1)
  refine (inverse_ok v' xs _ hv' HG.out).mono ?_; intro e w2 hIR
  obtain ⟨cn0, cn1, ca0, ca1, rfl, hfa, hb2⟩ := hIR.shape HE.out
  have hw2 := hb1.trans (hb2.mono hb1.size)
  have HFA := Lib.hid hfa
  clear hb1 hb2 hv' hIR hfa
  generalize (invF xs).nodes.length = nn at *
  generalize (invF xs).answers.length = na at *
  have ba := (Below.refl w2.heap.size w2).alloc (Nat.le_refl _) (.cells #[Value.slice cn0 nn cn1, Value.slice ca0 na ca1] 26)
  have HX3 := Lib.hid (FBx.new w2 (.slice cn0 nn cn1) (.slice ca0 na ca1))
  have HW3 := Lib.hid (hw2.trans (ba.mono hw2.size))
  have HFA3 := Lib.hid (HFA.out.mono ba)
  clear ba HFA hw2
  go_wp2_with fail
  generalize w2.alloc (.cells #[Value.slice cn0 nn cn1, Value.slice ca0 na ca1] 26) = w3 at *
  generalize w2.heap.size = O at *
  refine (spansFaultP_any _ xs _ (HV.out.mono HW3.out fun _ _ h => h)).mono ?_; rintro e w4 ⟨rfl, hb4⟩
  have HX4 := Lib.hid (HX3.out.below hb4 HX3.out.2.2.2)
  have HW4 := Lib.hid (HW3.out.trans (hb4.mono HW3.out.size))
  have HFA4 := Lib.hid (HFA3.out.mono hb4)
  rw [HG.out]
  obtain ⟨x0, x1, -, x3⟩ := HX4.out
  clear hb4 HX3 HW3 HFA3
  go_wp2_with fail
  refine (fault_any (invF xs) _ _ _ HFA4.out).mono ?_; rintro e w5 ⟨rfl, hb5⟩
  have HX5 := Lib.hid (HX4.out.below hb5 HX4.out.2.2.2)
  have HW5 := Lib.hid (HW4.out.trans (hb5.mono HW4.out.size))
  have HFA5 := Lib.hid (HFA4.out.mono hb5)
  rw [HF.out]
  clear hb5 HX4 HW4 HFA4 x0 x1 x3
  go_wp2_with fail
  refine (edgesT_any _ xs _ (HV.out.mono HW5.out fun _ _ h => h) HBD.out n1).mono ?_; rintro e w6 ⟨vi, zs, rfl, hvi, hb6⟩
  have HX6 := Lib.hid (HX5.out.below hb6 HX5.out.2.2.2)
  have HW6 := Lib.hid (HW5.out.trans (hb6.mono HW5.out.size))
  have HFA6 := Lib.hid (HFA5.out.mono hb6)
  have HVI := Lib.hid hvi
  clear hb6 hvi HX5 HW5 HFA5
  go_wp2_with fail
  refine (asked_any vi zs n _ HVI.out Hn.out).mono ?_; rintro e w' ⟨t, _, rfl, rfl⟩
  clear HVI
  by_cases c1 : 1099511627776 < t
  · go_wp2_with fail
    go_ret
    exact ⟨rfl, HW6.out⟩
  · by_cases c2 : t < -1099511627776
    · go_wp2_with fail
      go_ret
      exact ⟨rfl, HW6.out⟩
    · have HEV := Lib.hid (inv_evalOf HG.out HE.out t (.slice cn0 nn cn1) (.slice ca0 na ca1) w6 HFA6.out)
      have HLO := Lib.hid (fun w' (hw : Below w.heap.size w w') => localOf_any (.slice av xs.length cv) xs t w' (HV.out.mono hw fun _ _ h => h) HBD.out n1 (by omega) (by omega))
      have hA : ∃ A, A = tellA (segs xs) t := ⟨_, rfl⟩
      obtain ⟨A, hA⟩ := hA
      have HA := Lib.hid hA
      rw [← hA] at HEV HLO
      have HOF : Hid (offsAt (segs xs) t = A.offs) := by show _ = _; rw [hA]; rfl
      rw [HOF.out] at HLO
      have HAO : Hid (∀ x ∈ A.offs, I64 x) := by
        show ∀ x ∈ A.offs, I64 x
        rw [hA]
        exact (tell_ok HBD.out t).2.2.2
      have HCK : Hid (A.ck = ⟨0, false, ⟨#[]⟩⟩) := by show _ = _; rw [hA]; rfl
      clear hA HFA6
      obtain ⟨x0, x1, -, x3⟩ := HX6.out
      go_wp2_with fail
      refine HEV.out.mono ?_; rintro e w7 ⟨a7, c7, rfl, hs7, hb7⟩
      have HW7 := Lib.hid (HW6.out.trans (hb7.mono HW6.out.size))
      have bx := (Below.refl w7.heap.size w7).alloc (Nat.le_refl _) (.cells #[.int .i64 0, .bool false, .string ⟨#[]⟩, .slice a7 A.offs.length c7, .int .i64 A.jump] 39)
      have AB : Hid (ABx (w7.alloc (.cells #[.int .i64 0, .bool false, .string ⟨#[]⟩, .slice a7 A.offs.length c7, .int .i64 A.jump] 39)) w7.heap.size (.slice a7 A.offs.length c7) A.jump) := World.alloc_heap_new w7 _
      have HS8 := Lib.hid (hs7.mono bx fun _ _ h => h)
      have HW8 := Lib.hid (HW7.out.trans (bx.mono HW7.out.size))
      clear bx hs7 hb7 HW7 HEV x0 x1 x3 HX6
      go_wp2_with fail
      generalize w7.alloc (.cells #[.int .i64 0, .bool false, .string ⟨#[]⟩, .slice a7 A.offs.length c7, .int .i64 A.jump] 39) = w8 at *
      generalize w7.heap.size = P at *
      refine (HLO.out _ HW8.out).mono ?_; rintro e w9 ⟨a9, c9, rfl, ho9, hb9⟩
      have zP := AB.out.lt
      have p0 : w9.cell? ⟨P, 0, none⟩ = some (.int .i64 0) := (hb9.cell (p := ⟨P, 0, none⟩) zP).trans (AB.out.cell 0)
      have p1 : w9.cell? ⟨P, 1, none⟩ = some (.bool false) := (hb9.cell (p := ⟨P, 1, none⟩) zP).trans (AB.out.cell 1)
      have p2 : w9.cell? ⟨P, 2, none⟩ = some (.string ⟨#[]⟩) := (hb9.cell (p := ⟨P, 2, none⟩) zP).trans (AB.out.cell 2)
      have p3 : w9.cell? ⟨P, 3, none⟩ = some (.slice a7 A.offs.length c7) := (hb9.cell (p := ⟨P, 3, none⟩) zP).trans (AB.out.cell 3)
      have p4 : w9.cell? ⟨P, 4, none⟩ = some (.int .i64 A.jump) := (hb9.cell (p := ⟨P, 4, none⟩) zP).trans (AB.out.cell 4)
      have zP9 := Nat.lt_of_lt_of_le zP hb9.size
      have HS9 := Lib.hid (HS8.out.mono hb9 fun _ _ h => h)
      have HT9 := Lib.hid (ints_of_own HAO.out ho9)
      have HW9 := Lib.hid (HW8.out.trans (hb9.mono HW8.out.size))
      clear hb9 ho9 AB HS8 HW8 HLO zP
      go_wp2_with fail
      have hsame := sameAnswer_same A _ _ w9 HS9.out HT9.out (by rw [HCK.out]; exact Nat.zero_le _)
      rw [HCK.out] at hsame
      refine hsame.mono ?_; rintro e w10 ⟨rfl, hb10⟩
      have HW10 := Lib.hid (HW9.out.trans (hb10.mono HW9.out.size))
      clear hb10 hsame
      go_wp2_with fail
      go_ret
      exact ⟨rfl, HW10.out⟩
theorem walkTreeInverses (v : Value) (xs : List Spn) (n : Int) (w : World) (hv : SlAt w 4 RSpn v xs) (hn : I64 n) (hr : xs.length * 40 ≤ 140737488355328 ∧ ∀ n cap, v = .slice none n cap → cap = 0) :
    Calls Try.prog 3 #[v, .int .i64 n] w fun e w' => e = .returned (.bool true) ∧ Below w.heap.size w w' := by
  by_cases h : spnE xs = 0
  · cases hE : invE xs with
    | true => exact walkTreeInverses_big v xs n w hv hr.2 hr.1 h hE
    | false => exact walkTreeInverses_good v xs n w hv hn hr.2 hr.1 h hE
  · exact walkTreeInverses_bad v xs n w hv hr.2 hr.1 h
end Go.Proofs.Ytlhidbbphngpcaa
