/-
  sundialref.TextOf, walked; the law CodeTexts' walk.
-/
import Derived.Test.YtlhidbbphngpcaaDoorTxtB
namespace Go.Proofs.YtlhidbbphngpcaaDoor
set_option linter.unusedVariables false
set_option linter.unusedSimpArgs false
open Go.ChangeShapes Go.WideShapes Go.ChangeAt Go.RowKit

theorem inT_lit (n lo hi : Int) (r : Bool) (w : World) (h : decide (lo ≤ n ∧ n ≤ hi) = r) :
    Calls Tryd.prog 18 #[.int .i64 n, .int .i64 lo, .int .i64 hi] w fun e w' => e = .returned (.bool r) ∧ w = w' := by
  rw [← h]; exact in_any n lo hi w
set_option maxRecDepth 100000 in
set_option maxHeartbeats 4000000 in
theorem textOf_any (l : List Ins) (vl : Value) (w : World) (h : SlAt w 2 RIns vl l) :
    Calls Tryd.prog 7 #[vl] w fun e w' => e = .returned (.tuple #[.string ⟨(txtS l).toArray⟩, .int .i64 (txtE l)]) ∧ Below w.heap.size w w' := by
  obtain ⟨al, cl, rfl, ll⟩ := h.shape
  have ll' := maxLen_eq _ ll
  have HL := Lib.hid h
  clear h ll
  by_cases h0 : 8000 < l.length
  · have hb : 8000 < (l.length : Int) := by omega
    have HE : Hid (txtE l = 1) := by show _ = _; unfold txtE; rw [if_pos h0]
    have HS : Hid (txtS l = []) := by show _ = _; unfold txtS; rw [if_neg (by rw [HE.out]; decide)]
    clear h0
    go_enter Tryd.func7, Tryd.ntmps7
    go_wp2
    go_ret2
    exact ⟨by rw [HE.out, HS.out]; rfl, Below.refl _ _⟩
  · have hb : (l.length : Int) ≤ 8000 := by omega
    have HE : Hid (txtE l = txtF l) := by show _ = _; unfold txtE; rw [if_neg h0]
    clear h0
    go_enter Tryd.func7, Tryd.ntmps7
    go_wp2
    go_loopw [4, 5] (fun s t wr => ∃ k : Nat, k ≤ l.length ∧ t = .int .i64 k ∧ s = .string ⟨(txtB (l.take k)).toArray⟩ ∧ Hid (∀ i (hi : i < l.length), i < k → insT l[i] = 0) ∧ Hid (Below w.heap.size w wr)) (fun _ t _ => (l.length - intOf t).toNat)
    case atStart => exact ⟨0, by omega, rfl, rfl, fun i _ h => by omega, Below.refl _ _⟩
    case round =>
      obtain ⟨k, hk, rfl, rfl, hz', Hbr⟩ := hrel
      by_cases hlt : k < l.length
      · obtain ⟨b, off, rfl, hbb, ⟨c0, c1⟩, -, -⟩ := elemInsT HL.out k hlt
        have d0 := (Hbr.out.cell (p := ⟨b, off + k * 2, none⟩) hbb).trans c0
        have d1 := (Hbr.out.cell (p := ⟨b, off + k * 2 + 1, none⟩) hbb).trans c1
        have hsn := Lib.hid (txtB_snoc l k hlt)
        have hbad : Hid (insT l[k] ≠ 0 → txtE l = insT l[k] ∧ txtS l = []) := fun hne => by
          have h1 := HE.out.trans (txtF_at l k hlt hz'.out hne)
          exact ⟨h1, by unfold txtS; rw [if_neg (by rw [h1]; exact hne)]⟩
        have hgood : Hid (insT l[k] = 0 → Hid (∀ i (hi : i < l.length), i < k + 1 → insT l[i] = 0)) := fun h i hi h' => by
          by_cases e : i = k
          · subst e; exact h
          · exact hz'.out i hi (by omega)
        have hlen : Hid ((txtB (l.take k)).length ≤ 88000) := by
          show _ ≤ _
          have h1 := txtB_len (l.take k) (fun i hi => by
            have hi' : i < k := by rw [List.length_take] at hi; omega
            rw [List.getElem_take]
            exact hz'.out i (by omega) hi')
          rw [List.length_take] at h1
          omega
        have HEL := Lib.hid (show ∀ w' : World, Below w.heap.size w w' → w'.cell? ⟨b, off + k * 2, none⟩ = some (.int .i64 l[k].op) ∧ w'.cell? ⟨b, off + k * 2 + 1, none⟩ = some (.int .i64 l[k].n) from fun w' hb' => ⟨(hb'.cell (p := ⟨b, off + k * 2, none⟩) hbb).trans c0, (hb'.cell (p := ⟨b, off + k * 2 + 1, none⟩) hbb).trans c1⟩)
        clear c0 c1 hz'
        generalize l[k] = x at *
        have hkind := insT_kind x
        obtain ⟨op, n⟩ := x
        dsimp only at d0 d1 hkind HEL
        generalize txtB (l.take k) = acc at *
        rcases hkind with ⟨q1, hr⟩ | ⟨q1, q2, hr⟩ | ⟨q1, q2, q3, hr⟩ | ⟨q1, q2, q3, q4, hr⟩ | ⟨q1, q2, q3, q4, hbr, q5, hr⟩ | ⟨q1, q2, q3, q4, hbr, q5, hr⟩ | ⟨q1, q2, q3, q4, hbr, hr⟩
        · have HR := Lib.hid (hbad.out (by rw [hr]; decide))
          rw [hr] at HR
          clear hr
          go_wp2_with fail
          refine (inT_lit op 1 6 false _ (by simp; omega)).mono ?_; rintro e w' ⟨rfl, rfl⟩
          go_wp2
          go_ret2
          exact ⟨by rw [HR.out.1, HR.out.2]; rfl, Hbr.out⟩
        · have HR := Lib.hid (hbad.out (by rw [hr]; decide))
          rw [hr] at HR
          clear hr
          go_wp2_with fail
          refine (inT_lit op 1 6 false _ (by simp; omega)).mono ?_; rintro e w' ⟨rfl, rfl⟩
          go_wp2
          go_ret2
          exact ⟨by rw [HR.out.1, HR.out.2]; rfl, Hbr.out⟩
        · have HR := Lib.hid (hbad.out (by rw [hr]; decide))
          rw [hr] at HR
          clear hr
          go_wp2_with fail
          refine (inT_lit op 1 6 true _ (by simp; omega)).mono ?_; rintro e w' ⟨rfl, rfl⟩
          go_wp2_with fail
          refine (inT_lit n 0 8000 false _ (by simp; omega)).mono ?_; rintro e w' ⟨rfl, rfl⟩
          go_wp2
          go_ret2
          exact ⟨by rw [HR.out.1, HR.out.2]; rfl, Hbr.out⟩
        · have HR := Lib.hid (hbad.out (by rw [hr]; decide))
          rw [hr] at HR
          clear hr
          go_wp2_with fail
          refine (inT_lit op 1 6 true _ (by simp; omega)).mono ?_; rintro e w' ⟨rfl, rfl⟩
          go_wp2_with fail
          refine (inT_lit n 0 8000 false _ (by simp; omega)).mono ?_; rintro e w' ⟨rfl, rfl⟩
          go_wp2
          go_ret2
          exact ⟨by rw [HR.out.1, HR.out.2]; rfl, Hbr.out⟩
        · have HR := Lib.hid (hbad.out (by rw [hr]; decide))
          rw [hr] at HR
          have HBAR := Lib.hid hbr
          have hq5 : 0 < n := by omega
          clear hr hbr
          go_wp2_with fail
          refine (inT_lit op 1 6 true _ (by simp; omega)).mono ?_; rintro e w' ⟨rfl, rfl⟩
          go_wp2_with fail
          refine (inT_lit n 0 8000 true _ (by simp; omega)).mono ?_; rintro e w' ⟨rfl, rfl⟩
          go_wp2_with fail
          refine (hasT_lit op true _ HBAR.out).mono ?_; rintro e w' ⟨rfl, rfl⟩
          go_wp2
          go_ret2
          exact ⟨by rw [HR.out.1, HR.out.2]; rfl, Hbr.out⟩
        · have HG := Lib.hid (hgood.out hr)
          have HBAR := Lib.hid hbr
          subst q5
          obtain ⟨o, rfl⟩ : ∃ o : Nat, op = o := ⟨op.toNat, by omega⟩
          obtain ⟨NM, hNM⟩ : ∃ NM, NM = nmS.getD (o : Int).toNat [] := ⟨_, rfl⟩
          have HNL : Hid (NM.length ≤ 5) := by
            show _ ≤ _
            rw [hNM]
            exact (show ∀ i : Nat, i < 7 → (nmS.getD i []).length ≤ 5 by decide) _ (by omega)
          have HLN : Hid (txtB (l.take (k + 1)) = (acc ++ NM) ++ [10]) := by
            show _ = _
            rw [hsn.out, List.append_assoc]
            congr 1
            unfold linB
            rw [if_pos HBAR.out, hNM]
            rfl
          clear hr hbr
          go_wp2_with fail
          refine (inT_lit o 1 6 true _ (by simp; omega)).mono ?_; rintro e w' ⟨rfl, rfl⟩
          go_wp2_with fail
          refine (inT_lit 0 0 8000 true _ (by simp)).mono ?_; rintro e w' ⟨rfl, rfl⟩
          go_wp2_with fail
          refine (hasT_lit o true _ HBAR.out).mono ?_; rintro e w' ⟨rfl, rfl⟩
          go_wp2_with fail
          refine (opName_any o _ (by omega) (by omega)).mono ?_; rintro e w2 ⟨rfl, hb2⟩
          rw [← hNM]
          have Hb2 := Lib.hid (Hbr.out.trans (hb2.mono Hbr.out.size))
          have hx := HEL.out w2 Hb2.out
          obtain ⟨x0, x1⟩ := hx
          have hc1 := run_string_add_lists (P := Tryd.prog) w2 acc NM (by have := hlen.out; omega) (by have := HNL.out; omega)
          have hc2 := run_string_add_lists (P := Tryd.prog) w2 (acc ++ NM) [10] (by have := hlen.out; have := HNL.out; rw [List.length_append]; omega) (by decide)
          rw [← HLN.out] at hc2
          clear hb2 hNM
          go_wp2_with fail
          refine (hasT_lit o true _ HBAR.out).mono ?_; rintro e w' ⟨rfl, rfl⟩
          go_wp2
          go_roundw
          case rel => exact ⟨k + 1, by omega, by go_num, rfl, HG.out, Hb2⟩
          case measure => simp [intOf]; omega
        · have HG := Lib.hid (hgood.out hr)
          have HBAR := Lib.hid hbr
          obtain ⟨o, rfl⟩ : ∃ o : Nat, op = o := ⟨op.toNat, by omega⟩
          obtain ⟨u, rfl⟩ : ∃ u : Nat, n = u := ⟨n.toNat, by omega⟩
          obtain ⟨NM, hNM⟩ : ∃ NM, NM = nmS.getD (o : Int).toNat [] := ⟨_, rfl⟩
          have HNL : Hid (NM.length ≤ 5) := by
            show _ ≤ _
            rw [hNM]
            exact (show ∀ i : Nat, i < 7 → (nmS.getD i []).length ≤ 5 by decide) _ (by omega)
          obtain ⟨IT, hIT⟩ : ∃ IT, IT = Lib.decDigits u := ⟨_, rfl⟩
          have HIT : Hid (IT.length ≤ 21) := by
            show _ ≤ _
            rw [hIT, ← Lib.itoa_nonneg]
            exact Lib.itoa_length_le u (by omega) (by omega)
          obtain ⟨A2, hA2⟩ : ∃ A, A = acc ++ NM := ⟨_, rfl⟩
          obtain ⟨A3, hA3⟩ : ∃ A, A = A2 ++ [32] := ⟨_, rfl⟩
          obtain ⟨A4, hA4⟩ : ∃ A, A = A3 ++ IT := ⟨_, rfl⟩
          have HL2 : Hid (A2.length ≤ 88005) := by show _ ≤ _; have := hlen.out; have := HNL.out; rw [hA2, List.length_append]; omega
          have HL3 : Hid (A3.length ≤ 88006) := by show _ ≤ _; have := HL2.out; rw [hA3, List.length_append, List.length_singleton]; omega
          have HL4 : Hid (A4.length ≤ 88027) := by show _ ≤ _; have := HL3.out; have := HIT.out; rw [hA4, List.length_append]; omega
          have HLN : Hid (txtB (l.take (k + 1)) = A4 ++ [10]) := by
            show _ = _
            rw [hsn.out, hA4, hA3, hA2]
            unfold linB
            rw [if_neg (by rw [show barT (Ins.mk (o : Int) (u : Int)).op = false from HBAR.out]; decide), hNM, hIT, ← Lib.itoa_nonneg]
            simp
          clear hr hbr
          go_wp2_with fail
          refine (inT_lit o 1 6 true _ (by simp; omega)).mono ?_; rintro e w' ⟨rfl, rfl⟩
          go_wp2_with fail
          refine (inT_lit u 0 8000 true _ (by simp; omega)).mono ?_; rintro e w' ⟨rfl, rfl⟩
          go_wp2_with fail
          refine (hasT_lit o false _ HBAR.out).mono ?_; rintro e w' ⟨rfl, rfl⟩
          go_wp2_with fail
          refine (opName_any o _ (by omega) (by omega)).mono ?_; rintro e w2 ⟨rfl, hb2⟩
          rw [← hNM]
          have Hb2 := Lib.hid (Hbr.out.trans (hb2.mono Hbr.out.size))
          have hx := HEL.out w2 Hb2.out
          obtain ⟨x0, x1⟩ := hx
          have hc1 := run_string_add_lists (P := Tryd.prog) w2 acc NM (by have := hlen.out; omega) (by have := HNL.out; omega)
          have hc2 := run_string_add_lists (P := Tryd.prog) w2 A2 [32] (by have := HL2.out; omega) (by decide)
          rw [← hA2] at hc1
          rw [← hA3] at hc2
          have HA4 := Lib.hid hA4
          clear hb2 hNM hA2 hA3 hA4
          go_wp2_with fail
          refine (hasT_lit o false _ HBAR.out).mono ?_; rintro e w' ⟨rfl, rfl⟩
          go_wp2_with fail
          refine (dec_any (u + 1) u _ (by omega) (by omega)).mono ?_; rintro e w3 ⟨rfl, hb3⟩
          rw [← hIT]
          have Hb3 := Lib.hid (Hb2.out.trans (hb3.mono Hb2.out.size))
          have hc3 := run_string_add_lists (P := Tryd.prog) w3 A3 IT (by have := HL3.out; omega) (by have := HIT.out; omega)
          have hc4 := run_string_add_lists (P := Tryd.prog) w3 A4 [10] (by have := HL4.out; omega) (by decide)
          rw [← HA4.out] at hc3
          rw [← HLN.out] at hc4
          clear hb3 hIT hc1 hc2
          go_wp2
          go_roundw
          case rel => exact ⟨k + 1, by omega, by go_num, rfl, HG.out, Hb3⟩
          case measure => simp [intOf]; omega
      · have HK : Hid (txtF l = 0) := txtF_none l (fun i hi => hz'.out i hi (by omega))
        have HSS : Hid (txtS l = txtB (l.take k)) := by show _ = _; unfold txtS; rw [if_pos (HE.out.trans HK.out), List.take_of_length_le (by omega)]
        go_wp2
        go_ret2
        exact ⟨by rw [HE.out, HK.out, HSS.out]; rfl, Hbr.out⟩
end Go.Proofs.YtlhidbbphngpcaaDoor
