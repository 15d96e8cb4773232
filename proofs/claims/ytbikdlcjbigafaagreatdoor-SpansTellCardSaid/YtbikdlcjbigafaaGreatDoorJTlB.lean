/-
  SpansTell: the walk.
-/
import Derived.BigQuiet
import Derived.Test.YtbikdlcjbigafaaGreatDoorJRiA
import Derived.Test.YtbikdlcjbigafaaGreatDoorJRed
import Derived.Test.YtbikdlcjbigafaaGreatDoorJSpF
import Derived.Test.YtbikdlcjbigafaaGreatDoorJKsB
import Derived.Test.YtbikdlcjbigafaaGreatDoorJOrdG
namespace Go.Proofs.YtbikdlcjbigafaaGreatDoor
set_option linter.unusedVariables false
set_option linter.unusedSimpArgs false
open Go.ChangeShapes Go.WideShapes Go.ChangeAt Go.RowKit Civ

/-- a clock in a box of its own. -/
def TkB (wx : World) (B : Nat) (c : Clk) : Prop := BxO wx B #[.int .i64 c.off, .bool c.sav, .string c.nm] 37
theorem TkB.next {w w' : World} {B : Nat} {c : Clk} (h : TkB w B c) (hb : Below w.heap.size w w') : TkB w' B c := (hb.block _ (BxO.lt h)).trans h
set_option maxRecDepth 100000 in
set_option maxHeartbeats 4000000 in
theorem walkSpansTell (v : Value) (xs : List Rz) (n : Int) (near : Bool) (W : World) (hs : SlAt W 4 RRz v xs) (hn : (Lit.int .i64 n).wf = true) (hV : (SrV W ∧ PwT W) ∧ Tab W) :
    Calls Tryz.prog 4 #[v, .int .i64 n, .bool near] W fun e w' => e = .returned (.bool true) ∧ Below W.heap.size W w' := by
  have HZT := Lib.hid (zones_tells W hV.1.1 hV.2)
  have HRE := Lib.hid (fun wx (hb : Below W.heap.size W wx) => read_s v xs wx (hs.mono hb fun _ _ h => h) (hV.1.1.below hb) (hV.1.2.below hb) (hV.2.below hb))
  obtain ⟨va, vc, rfl, -⟩ := hs.shape
  have HTM := Lib.hid (fun wx (hb : Below W.heap.size W wx) => And.intro (hV.2.below hb) (hV.1.1.mx.below hb))
  by_cases h0 : srcE (srcO xs) = 0
  · rw [show decide (srcE (srcO xs) = 0) = true from by simp [h0]] at HRE
    have hcase := spO_tell xs h0 (i := 1) (by decide) (fol_two xs)
    have HS2 := Lib.hid (fun wx vr vz vl h hv => Spans_any (srcO xs) (bx twoWd) vr vz vl wx h hv)
    have HAT := Lib.hid (fun t wx vr vz vl h hv => At_any (srcO xs) (bx twoWd) t vr vz vl wx h hv)
    have HFA := Lib.hid (fun wx vr vz vl h hv => At_any (srcO xs) (bx twoWd) 4102444800 vr vz vl wx h hv)
    have HNO := Lib.hid (fun t wx vr vz vl h hv => At_any (srcO xs) (bx nobWd) t vr vz vl wx h hv)
    rw [at_far xs h0, atC_e (s := srcO xs) (n := bx twoWd) (t := 4102444800) (by rw [at_far xs h0]; decide)] at HFA
    have hno : ∀ t, atC (srcO xs) (bx nobWd) t = clk0 := fun t => atC_e (by rw [at_none xs h0 t]; decide)
    simp only [at_none xs h0, hno] at HNO
    rw [show bx nobWd = ⟨#[78, 111, 98, 111, 100, 121]⟩ from rfl] at HNO
    simp only [clk0] at HFA HNO
    have hle := spV_le (srcO xs) (bx twoWd)
    obtain ⟨E, hE⟩ : ∃ e, spE (srcO xs) (bx twoWd) = e := ⟨_, rfl⟩
    obtain ⟨L, hL⟩ : ∃ l, spV (srcO xs) (bx twoWd) = l := ⟨_, rfl⟩
    obtain ⟨C, hC⟩ : ∃ c, atC (srcO xs) (bx twoWd) = c := ⟨_, rfl⟩
    rw [hE, hL] at HS2 hcase
    rw [hL] at hle
    rw [hC] at hcase HAT
    obtain ⟨AE, hAE⟩ : ∃ c, atE (srcO xs) (bx twoWd) = c := ⟨_, rfl⟩
    rw [hAE] at hcase HAT
    rw [show bx twoWd = ⟨#[84, 119, 111]⟩ from rfl] at HS2 HAT HFA
    obtain ⟨O, hO⟩ : ∃ o, srcO xs = o := ⟨_, rfl⟩
    rw [hO] at HRE HS2 HAT HFA HNO
    have iN : I6 n := by obtain ⟨h1, h2⟩ := bounds_i64 hn; exact ⟨h1, by omega⟩
    clear hE hL hC hAE hO hs hV hn h0 hno
    have HCA := Lib.hid hcase
    clear hcase
    have HZ3 := HAT
    go_enter Tryz.func4, Tryz.ntmps4
    go_wp2_with fail
    refine HZT.out.mono ?_; rintro e w0 ⟨rfl, b0⟩
    have B0 := Lib.hid b0
    clear b0 HZT HZ3
    go_wp2_with fail
    refine (HRE.out _ B0.out).mono ?_; rintro e w1 ⟨vr, vz, vl, rfl, hx, b1⟩
    have K1 := Lib.hid (LkS.new (B0.out.trans (b1.mono B0.out.size)) hx)
    obtain ⟨a0, c0, rfl, -⟩ := hx.1.shape
    obtain ⟨a1, c1, rfl, -⟩ := hx.2.1.shape
    obtain ⟨a2, c2, rfl, -⟩ := hx.2.2.shape
    generalize O.rules.length = n0 at *
    generalize O.zones.length = n1 at *
    generalize O.links.length = n2 at *
    obtain ⟨W1, hW1⟩ : ∃ W1, W1 = w1.alloc (.cells #[.slice a0 n0 c0, .slice a1 n1 c1, .slice a2 n2 c2] 28) := ⟨_, rfl⟩
    rw [← hW1] at K1
    have H1 := Lib.hid hW1
    clear hW1 hx b1 HRE B0
    go_upto_region 4 with fail
    rw [← H1.out]
    clear H1
    generalize w1.heap.size = B at *
    obtain ⟨x0, x1, x2, xl⟩ := K1.out.cells
    go_wp2_with fail
    refine (HS2.out _ _ _ _ K1.out.s (HTM.out _ K1.out.b)).mono ?_; rintro e w2 ⟨u2, rfl, o2, b2⟩
    have K2 := Lib.hid (K1.out.next b2)
    obtain ⟨p2, q2, rfl⟩ := own_shape o2
    have O2 := Lib.hid o2
    generalize W1.heap.size = D at *
    clear x0 x1 x2 xl b2 HS2 K1 o2
    obtain ⟨x0, x1, x2, xl⟩ := K2.out.cells
    rcases HCA.out with ⟨rfl, rfl⟩ | ⟨rfl, hr, ⟨ck, l, hl⟩, hw, hlen, hat⟩
    · go_wp2
      go_ret
      exact ⟨ret_bool (by simp), K2.out.b⟩
    have HW := Lib.hid hw
    have HAC := Lib.hid hat
    have hp : 0 < L.length := by rw [hl]; simp
    have HL0 : Hid (∀ h : 0 < L.length, L[0].fr = -2208988800) := by intro h; subst hl; rfl
    obtain ⟨m, hm⟩ : ∃ m, L.length = m := ⟨_, rfl⟩
    have HM := Lib.hid hm
    rw [hm] at hp hlen
    rw [hm]
    clear hr hl hw hat hm HCA
    go_wp2_with fail
    refine (winIn _).mono ?_; rintro e w' ⟨rfl, rfl⟩
    have pb := pkz_bd n 6311433600 (by decide)
    have HPK := Lib.hid (fun wx => pick_s n 6311433600 wx iN (by decide) (by decide))
    obtain ⟨P, hP⟩ : ∃ p, pkz n 6311433600 = p := ⟨_, rfl⟩
    rw [hP] at pb HPK
    go_wp2_with fail
    refine (HPK.out _).mono ?_; rintro e w' ⟨rfl, rfl⟩
    clear hP HPK
    go_upto_if 50 with fail
    go_cut [13] (fun vt wx => ∃ t : Int, vt = .int .i64 t ∧ (-2208988800 ≤ t ∧ t < 4102444800) ∧ Hid (Below w2.heap.size w2 wx))
    case first =>
      cases near
      · go_wp2_with fail
        go_meet
        exact ⟨-2208988800 + P, rfl, by omega, Below.refl _ _⟩
      · obtain ⟨j, hj, hjm⟩ := nat_of (pkz_bd n m (by omega))
        have hjm : j < m := by omega
        have HP1 := Lib.hid (fun wx => pick_s n m wx iN (by omega) (by omega))
        have iN7 : I6 (n.tdiv 7) := iN.tdiv (by decide)
        have HP2 := Lib.hid (fun wx => pick_s (n.tdiv 7) 3 wx iN7 (by decide) (by decide))
        clear pb
        have pb := pkz_bd (n.tdiv 7) 3 (by decide)
        obtain ⟨P, hP⟩ : ∃ p, pkz (n.tdiv 7) 3 = p := ⟨_, rfl⟩
        rw [hP] at pb HP2
        rw [hj] at HP1
        have hjL : j < L.length := by rw [HM.out]; exact hjm
        obtain ⟨b, rfl, hb, d0, -, -, -⟩ := spn_of_own (show w2.ownsRow D 39 4 (.slice p2 L.length q2) L.length (L.flatMap encQ) from by rw [HM.out]; have := O2.out; rw [HM.out] at this; exact this) j hjL
        have hf := HW.out L[j] (List.getElem_mem hjL)
        obtain ⟨F, hF⟩ : ∃ f, L[j].fr = f := ⟨_, rfl⟩
        rw [hF] at d0 hf
        have hji : (j : Int) < (m : Int) := by omega
        have t1 : IntKind.i64.wrap (F + P) = F + P := IntWalk.i64_in _ (by omega)
        have t2 : IntKind.i64.wrap (F + P - 1) = F + P - 1 := IntWalk.i64_in _ (by omega)
        have t3 : IntKind.i64.wrap (n.tdiv 7) = n.tdiv 7 := IntWalk.i64_in _ (by have h1 := iN7.1; have h2 := iN7.2; omega)
        clear hF hP
        go_upto_region 12 with fail
        refine wp_region_freeT 13 (fun i v w => (([.eq (.slice (some ⟨b, 0, none⟩) m q2), .eq (.int .i64 n), .eq (.slice (some ⟨b, 0, none⟩) m q2), .eq (.int .i64 (m : Int)), .eq (.int .i64 (j : Int)), .eq (.pointer (some ⟨b, j * 4, none⟩)), .eq (.pointer (some ⟨b, j * 4, none⟩)), .eq (.int .i64 F), .eq (.int .i64 n), .eq (.int .i64 (n.tdiv 7)), .eq (.int .i64 P), .eq (.int .i64 (F + P)), .eq (.int .i64 (F + P - 1))] : List Pe).getD i .any).is v w) (by kernel_rfl) 117 rfl (of_decide_eq_true (by kernel_rfl)) (by kernel_rfl) (by kernel_rfl) (by kernel_rfl) (fun i v w w' h hb => Pe.stb h hb) ?hop _ rfl ?hQ
        case hop =>
          simp only [List.take_succ_cons, List.take_zero]
          refine ⟨fun ev w1 hB hc hf hg hr hi => ?_, ?_⟩
          · have e1 : ev (.tmp 9) = .slice (some ⟨b, 0, none⟩) m q2 := hi 9 (by kernel_rfl)
            exact OpOk.val (v := .slice (some ⟨b, 0, none⟩) m q2) (w' := w1) (by go_simp) ⟨rfl, Below.refl _ _⟩
          refine ⟨fun ev w1 hB hc hf hg hr hi => ?_, ?_⟩
          · have e1 : ev (.tmp 1) = .int .i64 n := hi 1 (by kernel_rfl)
            exact OpOk.val (v := .int .i64 n) (w' := w1) (by go_simp) ⟨rfl, Below.refl _ _⟩
          refine ⟨fun ev w1 hB hc hf hg hr hi => ?_, ?_⟩
          · have e1 : ev (.tmp 9) = .slice (some ⟨b, 0, none⟩) m q2 := hi 9 (by kernel_rfl)
            exact OpOk.val (v := .slice (some ⟨b, 0, none⟩) m q2) (w' := w1) (by go_simp) ⟨rfl, Below.refl _ _⟩
          refine ⟨fun ev w1 hB hc hf hg hr hi => ?_, ?_⟩
          · have e1 : ev (.tmp 53) = .slice (some ⟨b, 0, none⟩) m q2 := hr 53 2 (by kernel_rfl)
            exact OpOk.val (v := .int .i64 (m : Int)) (w' := w1) (by go_simp) ⟨rfl, Below.refl _ _⟩
          refine ⟨fun ev w1 hB hc hf hg hr hi => ?_, ?_⟩
          · have e1 : ev (.tmp 52) = .int .i64 n := hr 52 1 (by kernel_rfl)
            have e2 : ev (.tmp 54) = .int .i64 (m : Int) := hr 54 3 (by kernel_rfl)
            exact OpOk.call (f := 12) (args := #[.int .i64 n, .int .i64 (m : Int)]) (w' := w1) (by go_simp) ((HP1.out w1).mono fun e w2 ⟨he, hw⟩ => ⟨_, he, rfl, by subst hw; exact Below.refl _ _⟩)
          refine ⟨fun ev w1 hB hc hf hg hr hi => ?_, ?_⟩
          · have e1 : ev (.tmp 51) = .slice (some ⟨b, 0, none⟩) m q2 := hr 51 0 (by kernel_rfl)
            have e2 : ev (.tmp 55) = .int .i64 (j : Int) := hr 55 4 (by kernel_rfl)
            exact OpOk.val (v := .pointer (some ⟨b, j * 4, none⟩)) (w' := w1) (by go_simp) ⟨rfl, Below.refl _ _⟩
          refine ⟨fun ev w1 hB hc hf hg hr hi => ?_, ?_⟩
          · have e1 : ev (.tmp 56) = .pointer (some ⟨b, j * 4, none⟩) := hr 56 5 (by kernel_rfl)
            exact OpOk.val (v := .pointer (some ⟨b, j * 4, none⟩)) (w' := w1) (by go_simp) ⟨rfl, Below.refl _ _⟩
          refine ⟨fun ev w1 hB hc hf hg hr hi => ?_, ?_⟩
          · have e1 : ev (.tmp 57) = .pointer (some ⟨b, j * 4, none⟩) := hr 57 6 (by kernel_rfl)
            have y := (hB.cell (p := ⟨b, j * 4, none⟩) hb).trans d0
            have z := Nat.lt_of_lt_of_le hb hB.size
            exact OpOk.val (v := .int .i64 F) (w' := w1) (by go_simp) ⟨rfl, Below.refl _ _⟩
          refine ⟨fun ev w1 hB hc hf hg hr hi => ?_, ?_⟩
          · have e1 : ev (.tmp 1) = .int .i64 n := hi 1 (by kernel_rfl)
            exact OpOk.val (v := .int .i64 n) (w' := w1) (by go_simp) ⟨rfl, Below.refl _ _⟩
          refine ⟨fun ev w1 hB hc hf hg hr hi => ?_, ?_⟩
          · have e1 : ev (.tmp 59) = .int .i64 n := hr 59 8 (by kernel_rfl)
            have t := t3
            exact OpOk.val (v := .int .i64 (n.tdiv 7)) (w' := w1) (by go_simp) ⟨rfl, Below.refl _ _⟩
          refine ⟨fun ev w1 hB hc hf hg hr hi => ?_, ?_⟩
          · have e1 : ev (.tmp 60) = .int .i64 (n.tdiv 7) := hr 60 9 (by kernel_rfl)
            exact OpOk.call (f := 12) (args := #[.int .i64 (n.tdiv 7), .int .i64 3]) (w' := w1) (by go_simp) ((HP2.out w1).mono fun e w2 ⟨he, hw⟩ => ⟨_, he, rfl, by subst hw; exact Below.refl _ _⟩)
          refine ⟨fun ev w1 hB hc hf hg hr hi => ?_, ?_⟩
          · have e1 : ev (.tmp 58) = .int .i64 F := hr 58 7 (by kernel_rfl)
            have e2 : ev (.tmp 61) = .int .i64 P := hr 61 10 (by kernel_rfl)
            have t := t1
            exact OpOk.val (v := .int .i64 (F + P)) (w' := w1) (by go_simp) ⟨rfl, Below.refl _ _⟩
          refine ⟨fun ev w1 hB hc hf hg hr hi => ?_, ?_⟩
          · have e1 : ev (.tmp 62) = .int .i64 (F + P) := hr 62 11 (by kernel_rfl)
            have t := t2
            exact OpOk.val (v := .int .i64 (F + P - 1)) (w' := w1) (by go_simp) ⟨rfl, Below.refl _ _⟩
          exact trivial
        case hQ =>
          intro val w5 hB hF
          have v63 : val 12 = .int .i64 (F + P - 1) := hF 12 (by decide)
          simp only [putAll, Act.put, List.setIfInBounds_toArray, List.set_cons_zero, List.set_cons_succ, List.take_succ_cons, List.take_zero, List.take_nil]
          rw [v63]
          clear hF v63
          by_cases hlo : F + P - 1 < -2208988800
          · go_wp2_with fail
            go_meet
            exact ⟨-2208988800, rfl, by decide, hB⟩
          · go_wp2_with fail
            go_meet
            exact ⟨F + P - 1, rfl, by omega, hB⟩
    case rest =>
      obtain ⟨t, rfl, ht, HB3⟩ := hcut
      have K3 := Lib.hid (K2.out.next HB3.out)
      have O3 := Lib.hid (own_next O2.out HB3.out)
      obtain ⟨hz, hcv⟩ := HAC.out t ht.1 ht.2
      have HA1 := Lib.hid (fun vr vz vl h hv => HAT.out t wc vr vz vl h hv)
      have HCV := Lib.hid hcv
      obtain ⟨c, hc⟩ : ∃ c, C t = c := ⟨_, rfl⟩
      rw [hz, hc] at HA1
      have HC := Lib.hid hc
      clear hz hcv hc x0 x1 x2 xl K2 O2 HAC HAT
      obtain ⟨x0, x1, x2, xl⟩ := K3.out.cells
      go_wp2_with fail
      refine (HA1.out _ _ _ K3.out.s (HTM.out _ K3.out.b)).mono ?_; rintro e w4 ⟨rfl, b4⟩
      obtain ⟨W4, hW4⟩ : ∃ W4, W4 = w4.alloc (.cells #[.int .i64 c.off, .bool c.sav, .string c.nm] 37) := ⟨_, rfl⟩
      have B4 : Hid (Below wc.heap.size wc W4) := by show Below _ _ _; rw [hW4]; exact b4.alloc b4.size _
      have X4 : Hid (TkB W4 w4.heap.size c) := by show BxO _ _ _ _; rw [hW4]; exact BxO.new _ _ _
      have K4 := Lib.hid (K3.out.next B4.out)
      have O4 := Lib.hid (own_next O3.out B4.out)
      have H4 := Lib.hid hW4
      clear hW4 b4 x0 x1 x2 xl K3 O3 HA1 B4
      go_upto_region 16 with fail
      rw [← H4.out]
      clear H4
      generalize w4.heap.size = G at *
      obtain ⟨m1, hm1⟩ : ∃ m1, m = m1 + 1 := ⟨m - 1, by omega⟩
      have tw2 : IntKind.i64.wrap ((m : Int) - 1) = (m1 : Int) := by rw [IntWalk.i64_in _ (by omega)]; omega
      have HM1 := Lib.hid hm1
      clear hm1
      go_wp2_with fail
      go_loopw [16] (fun vi wr => ∃ k : Nat, k < m ∧ vi = .int .i64 k ∧ Hid (∀ h : k + 1 < L.length, t < L[k + 1].fr) ∧ Hid (Below W4.heap.size W4 wr)) (fun vi _ => (intOf vi + 1).toNat)
      case atStart => exact ⟨m1, by have := HM1.out; omega, rfl, fun h => by have h1 := HM1.out; have h2 := HM.out; omega, Below.refl _ _⟩
      case round =>
        obtain ⟨k, hk, rfl, HN, BK⟩ := hrel
        have K5 := Lib.hid (K4.out.next BK.out)
        have O5 := Lib.hid (own_next O4.out BK.out)
        have X5 := Lib.hid (TkB.next X4.out BK.out)
        have hkL : k < L.length := by rw [HM.out]; exact hk
        have hki : (k : Int) < (m : Int) := by omega
        obtain ⟨b, rfl, hb, d0, d1, d2, d3⟩ := spn_of_own (show wr.ownsRow D 39 4 (.slice p2 L.length q2) L.length (L.flatMap encQ) from by have := O5.out; rw [HM.out] at this ⊢; exact this) k hkL
        by_cases hgt : t < L[k].fr
        · have hk0 : 0 < k := by
            rcases Nat.eq_zero_or_pos k with h | h
            · subst h
              have := HL0.out hkL
              omega
            · exact h
          obtain ⟨j, hj⟩ : ∃ j, k = j + 1 := ⟨k - 1, by omega⟩
          have HN2 : Hid (∀ h : j + 1 < L.length, t < L[j + 1].fr) := by subst hj; exact fun _ => hgt
          have tw3 : IntKind.i64.wrap ((k : Int) - 1) = (j : Int) := by rw [IntWalk.i64_in _ (by omega)]; omega
          have hjm : j < m := by omega
          have HJ := Lib.hid hj
          generalize L[k].fr = F at *
          clear d1 d2 d3 hj hk0
          go_wp2_with fail
          go_roundw
          case rel => exact ⟨j, hjm, rfl, HN2, BK⟩
          case measure => have := HJ.out; simp [intOf]; omega
        · have hcc : L[k].ck = c := by rw [HCV.out k hkL (by omega) HN.out, HC.out]
          have hng : ¬ L[k].fr > t := by omega
          rw [hcc] at d1 d2 d3
          generalize L[k].fr = F at *
          obtain ⟨e0, e1, e2⟩ : wr.cell? ⟨G, 0, none⟩ = some (.int .i64 c.off) ∧ wr.cell? ⟨G, 1, none⟩ = some (.bool c.sav) ∧ wr.cell? ⟨G, 2, none⟩ = some (.string c.nm) := ⟨BxO.cell X5.out 0, BxO.cell X5.out 1, BxO.cell X5.out 2⟩
          have hG := BxO.lt X5.out
          obtain ⟨x0, x1, x2, xl⟩ := K5.out.cells
          clear hcc hgt HN
          go_wp2_with fail
          refine (HFA.out _ _ _ _ K5.out.s (HTM.out _ K5.out.b)).mono ?_; rintro e w6 ⟨rfl, b6⟩
          obtain ⟨W6, hW6⟩ : ∃ W6, W6 = w6.alloc (.cells #[.int .i64 0, .bool false, .string ⟨#[]⟩] 37) := ⟨_, rfl⟩
          have B6 : Hid (Below wr.heap.size wr W6) := by show Below _ _ _; rw [hW6]; exact b6.alloc b6.size _
          have K6 := Lib.hid (K5.out.next B6.out)
          have X6 := Lib.hid (TkB.next X5.out B6.out)
          have c6 := fun (i : Nat) => B6.out.cell (p := ⟨b, i, none⟩) hb
          have hb6 := Nat.lt_of_lt_of_le hb B6.out.size
          have f0 := (c6 _).trans d0
          have f1 := (c6 _).trans d1
          have f2 := (c6 _).trans d2
          have f3 := (c6 _).trans d3
          have H6 := Lib.hid hW6
          clear hW6 b6 x0 x1 x2 xl e0 e1 e2 hG d0 d1 d2 d3 hb c6 K5 X5 B6 BK O5
          go_upto_region 20 with fail
          rw [← H6.out]
          clear H6
          obtain ⟨x0, x1, x2, xl⟩ := K6.out.cells
          go_wp2_with fail
          refine (HNO.out _ _ _ _ _ K6.out.s (HTM.out _ K6.out.b)).mono ?_; rintro e w7 ⟨rfl, b7⟩
          obtain ⟨W7, hW7⟩ : ∃ W7, W7 = w7.alloc (.cells #[.int .i64 0, .bool false, .string ⟨#[]⟩] 37) := ⟨_, rfl⟩
          have B7 : Hid (Below W6.heap.size W6 W7) := by show Below _ _ _; rw [hW7]; exact b7.alloc b7.size _
          have K7 := Lib.hid (K6.out.next B7.out)
          have X7 := Lib.hid (TkB.next X6.out B7.out)
          have c7 := fun (i : Nat) => B7.out.cell (p := ⟨b, i, none⟩) hb6
          have hb7 := Nat.lt_of_lt_of_le hb6 B7.out.size
          have g0 := (c7 _).trans f0
          have g1 := (c7 _).trans f1
          have g2 := (c7 _).trans f2
          have g3 := (c7 _).trans f3
          have H7 := Lib.hid hW7
          clear hW7 b7 x0 x1 x2 xl f0 f1 f2 f3 hb6 c7 K6 X6 B7
          go_upto_region 21 with fail
          rw [← H7.out]
          clear H7
          obtain ⟨e0, e1, e2⟩ : W7.cell? ⟨G, 0, none⟩ = some (.int .i64 c.off) ∧ W7.cell? ⟨G, 1, none⟩ = some (.bool c.sav) ∧ W7.cell? ⟨G, 2, none⟩ = some (.string c.nm) := ⟨BxO.cell X7.out 0, BxO.cell X7.out 1, BxO.cell X7.out 2⟩
          have hG := BxO.lt X7.out
          obtain ⟨co, cs, cn⟩ := c
          dsimp only at e0 e1 e2 g1 g2 g3
          go_quiet (fail)
          go_wp2
          go_ret
          exact ⟨ret_bool (by simp), below_draws K7.out.b _⟩
  · rw [show decide (srcE (srcO xs) = 0) = false from by simp [h0]] at HRE
    obtain ⟨O, hO⟩ : ∃ o, srcO xs = o := ⟨_, rfl⟩
    rw [hO] at HRE
    clear h0 hs hV hn hO
    go_enter Tryz.func4, Tryz.ntmps4
    go_wp2_with fail
    refine HZT.out.mono ?_; rintro e w0 ⟨rfl, b0⟩
    have B0 := Lib.hid b0
    clear b0 HZT
    go_wp2_with fail
    refine (HRE.out _ B0.out).mono ?_; rintro e w1 ⟨vr, vz, vl, rfl, hx, b1⟩
    have K1 := Lib.hid (LkS.new (B0.out.trans (b1.mono B0.out.size)) hx)
    obtain ⟨a0, c0, rfl, -⟩ := hx.1.shape
    obtain ⟨a1, c1, rfl, -⟩ := hx.2.1.shape
    obtain ⟨a2, c2, rfl, -⟩ := hx.2.2.shape
    generalize O.rules.length = n0 at *
    generalize O.zones.length = n1 at *
    generalize O.links.length = n2 at *
    obtain ⟨W1, hW1⟩ : ∃ W1, W1 = w1.alloc (.cells #[.slice a0 n0 c0, .slice a1 n1 c1, .slice a2 n2 c2] 28) := ⟨_, rfl⟩
    rw [← hW1] at K1
    have H1 := Lib.hid hW1
    clear hW1 hx b1 HRE B0
    go_upto_region 4 with fail
    rw [← H1.out]
    clear H1
    generalize w1.heap.size = B at *
    go_wp2
    go_ret
    exact ⟨ret_bool (by simp), K1.out.b⟩
end Go.Proofs.YtbikdlcjbigafaaGreatDoor
