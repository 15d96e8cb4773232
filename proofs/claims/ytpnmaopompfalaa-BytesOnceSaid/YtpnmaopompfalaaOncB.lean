/-
  The law BytesOnce: what is read is written as it was read.
-/
import Derived.Test.YtpnmaopompfalaaDecS
import Derived.Test.YtpnmaopompfalaaOncA
import Derived.Test.YtpnmaopompfalaaEncG
namespace Go.Proofs.Ytpnmaopompfalaa
set_option linter.unusedVariables false
set_option linter.unusedSimpArgs false
open Go.ChangeShapes Go.WideShapes Go.ChangeAt Go.RowKit

/-- an argument's bytes as a string. -/
theorem conv_arg {w : World} {v : Value} {b : List Int} (h : SlAt w 1 RByt v b) (h0 : 0 < b.length) : (convert 66 9 v).run Try.prog w = .ok (.string (strOfNums b)) w := by
  obtain ⟨g, off, cap, rfl, _, _, hc⟩ := byts_open h h0
  exact run_convert_bytes_arg (P := Try.prog) w 66 5 Try.underlying66 Try.underlying5 g off _ cap b rfl (fun i hi => by
    rw [hc i hi, List.getD_eq_getElem?_getD, List.getElem?_eq_getElem hi]; rfl) 9 Try.underlying9
set_option maxHeartbeats 2000000 in
theorem walkBytesOnce (v : Value) (b : List Int) (w : World) (hv : SlAt w 1 RByt v b) :
    Calls Try.prog 17 #[v] w fun e w' => e = .returned (.bool true) ∧ Below w.heap.size w w' := by
  obtain ⟨av, cv, hve, hl⟩ := hv.shape
  obtain ⟨p, e, hd⟩ : ∃ p e, decD b = (p, e) := ⟨_, _, rfl⟩
  have HV := Lib.hid hv
  have HD := Lib.hid hd
  have HB := Lib.hid (byts_of hv)
  subst hve
  clear hv hl
  by_cases he : e = 0
  · subst he
    have h3 : 0 < b.length := by
      unfold decD at hd
      split at hd
      · omega
      · split at hd
        · exact absurd (congrArg Prod.snd hd) (by simp)
        · omega
    obtain ⟨hpb, x0, y0, hver⟩ := dec_inv HB.out hd
    have HPB := Lib.hid hpb
    have HVE := Lib.hid hver
    have H3 := Lib.hid h3
    obtain ⟨sx, hsx⟩ : ∃ sx, strOfNums b = sx := ⟨_, rfl⟩
    have HSX := Lib.hid hsx
    clear hd hpb hver h3 hsx
    go_enter Try.func17, Try.ntmps17
    go_wp2_with fail
    refine (decode_any _ b _ HV.out HD.out).mono ?_; rintro r w2 ⟨vc, vp, va, rfl, hp2, hb2⟩
    obtain ⟨c1, c2, rfl, _⟩ := hp2.1.shape
    obtain ⟨c3, c4, rfl, _⟩ := hp2.2.1.shape
    obtain ⟨c5, c6, rfl, _⟩ := hp2.2.2.shape
    have ba := (Below.refl w2.heap.size w2).alloc (Nat.le_refl _) (.cells #[.slice c1 p.code.length c2, .slice c3 p.pool.length c4, .slice c5 p.answers.length c6] 58)
    have hw3 := hb2.trans (ba.mono hb2.size)
    have HP2 := Lib.hid (hp2.mono ba)
    have HW3 := Lib.hid hw3
    clear hb2 hp2 ba hw3
    go_wp2_with fail
    refine (encode_ok p _ _ _ _ HP2.out HVE.out).mono ?_; rintro r w4 ⟨v4, rfl, ho4, hb4⟩
    rw [HPB.out] at ho4
    obtain ⟨a4, k4, rfl⟩ := own_shape ho4
    have hw4 := HW3.out.trans (hb4.mono HW3.out.size)
    have q1 := conv_arg (HV.out.mono hw4 fun _ _ h => h) H3.out
    have q2 := conv_own ho4 H3.out
    rw [HSX.out] at q1 q2
    have HW4 := Lib.hid hw4
    clear ho4 hb4 hw4
    go_wp2
    go_ret
    exact ⟨ret_bool (by simp), HW4.out⟩
  · have hne : (e != 0) = true := by rw [bne_iff_ne]; exact he
    have hp := dec_bad HB.out hd he
    subst hp
    clear hd he
    go_enter Try.func17, Try.ntmps17
    go_wp2_with fail
    refine (decode_any _ b _ HV.out HD.out).mono ?_; rintro r w2 ⟨vc, vp, va, rfl, hp2, hb2⟩
    obtain ⟨c1, c2, hc, _⟩ := hp2.1.shape
    obtain rfl : vc = .slice c1 0 c2 := hc
    obtain ⟨c3, c4, rfl, _⟩ := hp2.2.1.shape
    obtain ⟨c5, c6, rfl, _⟩ := hp2.2.2.shape
    have ba := (Below.refl w2.heap.size w2).alloc (Nat.le_refl _) (.cells #[.slice c1 0 c2, .slice c3 noP.pool.length c4, .slice c5 noP.answers.length c6] 58)
    have HW3 := Lib.hid (hb2.trans (ba.mono hb2.size))
    clear hb2 hp2 ba
    go_wp2
    go_ret
    exact ⟨ret_bool (by simp), HW3.out⟩
end Go.Proofs.Ytpnmaopompfalaa
