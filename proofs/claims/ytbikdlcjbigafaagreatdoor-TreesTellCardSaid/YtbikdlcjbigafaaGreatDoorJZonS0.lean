/-
  zones.checkZone: what is wrong with a zone. zones.checkZone: the walk. sundialref.zoneFault: the walk.
-/
import Derived.Deep.RegionHeld3
import Derived.Test.YtbikdlcjbigafaaGreatDoorJZonP0
namespace Go.Proofs.YtbikdlcjbigafaaGreatDoor
set_option linter.unusedVariables false
set_option linter.unusedSimpArgs false
open Go.ChangeShapes Go.WideShapes Go.ChangeAt Go.RowKit Civ

theorem ferrZ_all {α : Type} (f : Nat → α → Int) : ∀ (xs : List α) (s : Nat), ferr f s xs = 0 → ∀ i (hi : i < xs.length), f (s + i) xs[i] = 0
  | [], _, _, i, hi => by simp at hi
  | x :: xs, s, h, 0, _ => by
    unfold ferr at h
    by_cases e : f s x = 0
    · simpa using e
    · rw [if_pos e] at h; exact absurd h e
  | x :: xs, s, h, i + 1, hi => by
    unfold ferr at h
    by_cases e : f s x = 0
    · rw [if_neg (by simpa using e)] at h
      have := ferrZ_all f xs (s + 1) h i (by simpa using hi)
      rw [show s + (i + 1) = s + 1 + i by omega]
      simpa using this
    · rw [if_pos e] at h; exact absurd h e
theorem riseB_iff : ∀ (l : List Int), riseB l = true ↔ ∀ (i : Nat) (h : i + 1 < l.length), l[i] < l[i + 1]
  | [] => by simp [riseB]
  | [_] => by simp [riseB]
  | x :: y :: l => by
    unfold riseB
    rw [Bool.and_eq_true, decide_eq_true_iff, riseB_iff (y :: l)]
    constructor
    · rintro ⟨h1, h2⟩ i h
      rcases i with _ | i
      · exact h1
      · have := h2 i (by simpa using h)
        simpa using this
    · intro h
      refine ⟨h 0 (by simp), fun i hi => ?_⟩
      have := h (i + 1) (by simpa using hi)
      simpa using this
theorem eroE_form {rules : List Rul} {x : Ero} {last : Bool} (h : eroF x last = true) : eroE rules x last = 4 := by unfold eroE; rw [if_pos h]
theorem checkEra_any (s : Src) (x : Ero) (last : Bool) (vr vz vl : Value) (w : World) (hs : SrcAt w vr vz vl s) (hx : E64 x) (hV : Tab w ∧ MxL w) :
    Calls Tryz.prog 100 #[.agg #[vr, vz, vl], .agg #[.int .i64 x.off, .string x.rl, .int .i64 x.sv, .string x.fm, .bool x.en, .int .i64 x.yr, .int .i64 x.un.mo, .int .i64 x.un.k, .int .i64 x.un.a, .int .i64 x.un.n, .int .i64 x.un.t, .int .i64 x.un.c], .bool last] w fun e w' => e = .returned (.int .i64 (eroE s.rules x last)) ∧ Below w.heap.size w w' := by
  cases h : eroF x last with
  | false => exact checkEra_good s x last vr vz vl w hs hx hV h
  | true => rw [eroE_form h]; exact checkEra_form s x last vr vz vl w hs hx hV h
/-- what holds of rules that may be. -/
def RsOk (s : Src) : Prop := (∀ r ∈ s.rules, rulE r = 0) ∧ s.rules.length ≤ 200
theorem eok_of {s : Src} {xs : List Ero} (hr : RsOk s) (h : erosE s.rules xs = 0) (k : Nat) (hk : k + 1 < xs.length) : EOk s (xs[k]'(by omega)) := by
  have h1 := ferrZ_all _ xs 0 h k (by omega)
  rw [Nat.zero_add] at h1
  have hd : decide ((k : Int) = (xs.length : Int) - 1) = false := by rw [decide_eq_false_iff_not]; omega
  simp only [hd] at h1
  generalize xs[k]'(by omega) = x at *
  unfold eroE at h1
  split at h1
  · cases h1
  · split at h1
    · cases h1
    · rename_i h2
      split at h1
      · cases h1
      · split at h1
        · rename_i e; cases e
        · split at h1
          · cases h1
          · split at h1
            · rename_i e; exact absurd h1 e
            · rename_i h5
              exact ⟨⟨hr.1, hr.2, by omega⟩, by omega, by omega, h1⟩
theorem zonE_a {rules : List Rul} {z : Zon} (h : nameS z.nm = false) : zonE rules z = 4 := by unfold zonE; rw [if_pos h]
theorem zonE_b {rules : List Rul} {z : Zon} (h0 : nameS z.nm = true) (h : z.eras.length = 0 ∨ 20 < z.eras.length) : zonE rules z = 1 := by
  unfold zonE; rw [if_neg (by rw [h0]; simp), if_pos h]
theorem zonE_c {rules : List Rul} {z : Zon} (h0 : nameS z.nm = true) (h : ¬ (z.eras.length = 0 ∨ 20 < z.eras.length)) (h2 : erosE rules z.eras ≠ 0) : zonE rules z = erosE rules z.eras := by
  unfold zonE; rw [if_neg (by rw [h0]; simp), if_neg h, if_pos h2]
theorem zonE_d {rules : List Rul} {z : Zon} (h0 : nameS z.nm = true) (h : ¬ (z.eras.length = 0 ∨ 20 < z.eras.length)) (h2 : erosE rules z.eras = 0) : zonE rules z = if riseB (untL rules z.eras) = true then 0 else 8 := by
  unfold zonE; rw [if_neg (by rw [h0]; simp), if_neg h, if_neg (by simpa using h2)]
end Go.Proofs.YtbikdlcjbigafaaGreatDoor
namespace Go.Proofs.YtbikdlcjbigafaaGreatDoor
set_option linter.unusedVariables false
set_option linter.unusedSimpArgs false
open Go.ChangeShapes Go.WideShapes Go.ChangeAt Go.RowKit Civ

theorem ent_of_own {w : World} {B co : Nat} {ao : Option Addr} {l : List Int} (h : w.ownsRow B 3 1 (.slice ao l.length co) l.length (l.flatMap encJ)) (k : Nat) (hk : k < l.length) : ∃ b, ao = some ⟨b, 0, none⟩ ∧ b < w.heap.size ∧ w.cell? ⟨b, k, none⟩ = some (.int .i64 l[k]) := by
  rcases h.2 with ⟨e, h0⟩ | ⟨g, cap, cur, e, hb, hh, hc, hm, hs', ht⟩
  · omega
  · simp only [Value.slice.injEq] at e
    obtain ⟨rfl, -, rfl⟩ := e
    refine ⟨g, rfl, (h.lt g rfl).2, ?_⟩
    rw [h.cellAt _ (by omega)]
    have := flat_at (sz := 1) (enc := encJ) (fun _ => rfl) l k 0 hk (by omega)
    rw [Nat.mul_one, Nat.add_zero] at this
    exact this
set_option maxHeartbeats 8000000 in
set_option maxRecDepth 100000 in
theorem checkZone_any (s : Src) (z : Zon) (vr vz vl ve : Value) (w : World) (hs : SrcAt w vr vz vl s) (hV : Tab w ∧ MxL w) (hz : SlAt w 12 REro ve z.eras) (hn : z.nm.size ≤ maxLen) (hr : RsOk s) :
    Calls Tryz.prog 61 #[.agg #[vr, vz, vl], .agg #[.string z.nm, ve]] w fun e w' => e = .returned (.int .i64 (zonE s.rules z)) ∧ Below w.heap.size w w' := by
  obtain ⟨nm, xs⟩ := z
  obtain ⟨ae, ce, rfl, hl⟩ := hz.shape
  have hml := maxLen_eq _ hl
  dsimp only at hz hn hml ⊢
  have Z0 := Lib.hid (ZnB.new w vr vz vl nm (.slice ae xs.length ce))
  obtain ⟨W0, hW0⟩ : ∃ W0, W0 = (w.alloc (.cells #[vr, vz, vl] 28)).alloc (.cells #[.string nm, .slice ae xs.length ce] 65) := ⟨_, rfl⟩
  rw [← hW0] at Z0
  have HW := Lib.hid hW0
  have HS := Lib.hid hs
  have HV := Lib.hid hV
  have HX := Lib.hid hz
  have HR := Lib.hid hr
  have HN := Lib.hid (fun wx => name_lit nm wx hn)
  clear hs hV hz hr hl hW0 hn
  rcases hname : nameS nm with _ | _
  · have H1 := Lib.hid hname
    have H2 : Hid (zonE s.rules ⟨nm, xs⟩ = 4) := zonE_a hname
    clear hname
    go_enter Tryz.func61, Tryz.ntmps61
    go_upto_region 1 with fail
    rw [← HW.out]
    obtain ⟨g0, g1⟩ := Z0.out.2.1
    go_wp2_with fail
    refine (HN.out _).mono ?_; rintro e w1 ⟨rfl, hb1⟩
    rw [H1.out]
    have Z1 := Lib.hid (Z0.out.next hb1)
    clear hb1 g0 g1
    go_wp2
    go_ret
    exact ⟨ret_int H2.out.symm, Z1.out.2.2.1⟩
  · have H1 := Lib.hid hname
    clear hname
    by_cases hsz : xs.length = 0 ∨ 20 < xs.length
    · have H2 : Hid (zonE s.rules ⟨nm, xs⟩ = 1) := zonE_b H1.out hsz
      rcases hsz with h0 | h0
      · have h1 : ((xs.length : Int) == 0) = true := by rw [h0]; rfl
        clear h0
        go_enter Tryz.func61, Tryz.ntmps61
        go_upto_region 1 with fail
        rw [← HW.out]
        obtain ⟨g0, g1⟩ := Z0.out.2.1
        go_wp2_with fail
        refine (HN.out _).mono ?_; rintro e w1 ⟨rfl, hb1⟩
        rw [H1.out]
        have Z1 := Lib.hid (Z0.out.next hb1)
        clear hb1 g0 g1
        obtain ⟨g0, g1⟩ := Z1.out.2.1
        go_wp2
        go_ret
        exact ⟨ret_int H2.out.symm, Z1.out.2.2.1⟩
      · have h1 : ((xs.length : Int) == 0) = false := by rw [beq_eq_false_iff_ne]; omega
        have h2 : (20 : Int) < (xs.length : Int) := by omega
        go_enter Tryz.func61, Tryz.ntmps61
        go_upto_region 1 with fail
        rw [← HW.out]
        obtain ⟨g0, g1⟩ := Z0.out.2.1
        go_wp2_with fail
        refine (HN.out _).mono ?_; rintro e w1 ⟨rfl, hb1⟩
        rw [H1.out]
        have Z1 := Lib.hid (Z0.out.next hb1)
        clear hb1 g0 g1
        obtain ⟨g0, g1⟩ := Z1.out.2.1
        go_wp2
        go_ret
        exact ⟨ret_int H2.out.symm, Z1.out.2.2.1⟩
    · have HSZ := Lib.hid hsz
      have h1 : ((xs.length : Int) == 0) = false := by rw [beq_eq_false_iff_ne]; omega
      have h2 : ¬ (20 : Int) < (xs.length : Int) := by omega
      have h20 : xs.length ≤ 20 := by omega
      have h01 : 1 ≤ xs.length := by omega
      clear hsz
      go_enter Tryz.func61, Tryz.ntmps61
      go_upto_region 1 with fail
      rw [← HW.out]
      obtain ⟨g0, g1⟩ := Z0.out.2.1
      go_wp2_with fail
      refine (HN.out _).mono ?_; rintro e w1 ⟨rfl, hb1⟩
      rw [H1.out]
      have Z1 := Lib.hid (Z0.out.next hb1)
      clear hb1 g0 g1 Z0 HW
      obtain ⟨g0, g1⟩ := Z1.out.2.1
      go_wp2
      clear g0 g1
      go_loopw [27] (fun i wr => ∃ k : Nat, k ≤ xs.length ∧ i = .int .i64 k ∧ Hid (∀ (j : Nat) (hj : j < xs.length), j < k → eroE s.rules xs[j] (decide ((j : Int) = (xs.length : Int) - 1)) = 0) ∧ Hid (ZnB w wr vr vz vl nm (.slice ae xs.length ce))) (fun i _ => (xs.length - intOf i).toNat)
      case atStart => exact ⟨0, Nat.zero_le _, rfl, fun j hj h => by omega, Z1⟩
      case round =>
        obtain ⟨k, hk, rfl, HNN, ZK⟩ := hrel
        by_cases hlt : k < xs.length
        · have hki : (k : Int) < (xs.length : Int) := by omega
          obtain ⟨b, off, rfl, hb, ⟨d0, d1, d2, d3, d4, d5, d6, d7, d8, d9, d10, d11⟩, hE⟩ := elemEro (HX.out.mono ZK.out.2.2.1 fun _ _ h => h) k hlt
          have HAT : Hid (eroE s.rules xs[k] (decide ((k : Int) = (xs.length : Int) - 1)) ≠ 0 → zonE s.rules ⟨nm, xs⟩ = eroE s.rules xs[k] (decide ((k : Int) = (xs.length : Int) - 1))) := by
            show _ → _
            intro h
            have h3 := ferr_at (fun i x => eroE s.rules x (decide ((i : Int) = (xs.length : Int) - 1))) xs 0 k hlt (fun i hi => by rw [Nat.zero_add]; exact HNN.out i (by omega) hi) (by rw [Nat.zero_add]; exact h)
            rw [Nat.zero_add] at h3
            rw [zonE_c H1.out HSZ.out (by show ferr _ 0 xs ≠ 0; rw [h3]; exact h)]
            exact h3
          have HN2 : Hid (eroE s.rules xs[k] (decide ((k : Int) = (xs.length : Int) - 1)) = 0 → ∀ (j : Nat) (hj : j < xs.length), j < k + 1 → eroE s.rules xs[j] (decide ((j : Int) = (xs.length : Int) - 1)) = 0) := by
            show _ → ∀ (j : Nat) (hj : j < xs.length), _
            intro h j hj hjk
            by_cases e : j = k
            · subst e; exact h
            · exact HNN.out j hj (by omega)
          obtain ⟨lb, hlb⟩ : ∃ lb : Bool, decide ((k : Int) = (xs.length : Int) - 1) = lb := ⟨_, rfl⟩
          have hlb2 : ((k : Int) == (xs.length : Int) - 1) = lb := by rw [← hlb]; rfl
          rw [hlb] at HAT HN2
          have HCE := Lib.hid (fun wx (hb : Below w.heap.size w wx) => checkEra_any s xs[k] lb vr vz vl wx (HS.out.mono hb) hE ⟨HV.out.1.below hb, HV.out.2.below hb⟩)
          generalize xs[k] = x at *
          obtain ⟨E, hEE⟩ : ∃ E, E = eroE s.rules x lb := ⟨_, rfl⟩
          rw [← hEE] at HAT HN2 HCE
          clear hEE hE HNN
          obtain ⟨q0, q1, q2⟩ := ZK.out.1
          obtain ⟨g0, g1⟩ := ZK.out.2.1
          have hzz : w.heap.size + 1 < wr.heap.size := ZK.out.2.2.2
          have hz0 : w.heap.size < wr.heap.size := by omega
          have hw1 : wrap64 ((xs.length : Int) - 1) = (xs.length : Int) - 1 := IntWalk.wrap64_in _ (by omega)
          go_wp2_with fail
          refine (HCE.out _ (ZK.out.2.2.1.alloc (by omega) _)).mono ?_; rintro e w3 ⟨rfl, hb3⟩
          have Z3 := Lib.hid ((ZK.out.next ((Below.refl _ _).alloc (Nat.le_refl _) _)).next hb3)
          clear hb3 d0 d1 d2 d3 d4 d5 d6 d7 d8 d9 d10 d11 q0 q1 q2 g0 g1 ZK HCE hlb hlb2
          by_cases h0 : E = 0
          · subst h0
            have HN3 := Lib.hid (HN2.out rfl)
            clear HAT HN2
            go_wp2
            go_roundw
            case rel => exact ⟨k + 1, by omega, by go_num, HN3, Z3⟩
            case measure => simp [intOf]; omega
          · have h3 : (E != 0) = true := by rw [bne_iff_ne]; exact h0
            have HAT2 := Lib.hid (HAT.out h0)
            clear h0 HAT HN2
            go_wp2
            go_ret
            exact ⟨ret_int HAT2.out.symm, Z3.out.2.2.1⟩
        · obtain rfl : k = xs.length := by omega
          have hnl : ¬ (xs.length : Int) < (xs.length : Int) := by omega
          have HE0 : Hid (erosE s.rules xs = 0) := ferr_none _ xs 0 fun i hi => by rw [Nat.zero_add]; exact HNN.out i hi hi
          have HZE : Hid (zonE s.rules ⟨nm, xs⟩ = if riseB (untL s.rules xs) = true then 0 else 8) := zonE_d H1.out HSZ.out HE0.out
          have HUN := Lib.hid (fun wx (hb : Below w.heap.size w wx) => untils_any s nm xs vr vz vl (.slice ae xs.length ce) wx (HS.out.mono hb) (HV.out.1.below hb) (HX.out.mono hb fun _ _ h => h) h01 h20 (eok_of HR.out HE0.out))
          obtain ⟨q0, q1, q2⟩ := ZK.out.1
          obtain ⟨g0, g1⟩ := ZK.out.2.1
          have hzz : w.heap.size + 1 < wr.heap.size := ZK.out.2.2.2
          clear hlt hk HNN HE0
          go_wp2_with fail
          refine (HUN.out _ ZK.out.2.2.1).mono ?_; rintro e w3 ⟨v3, rfl, ho3, hb3⟩
          have B3 := Lib.hid (ZK.out.2.2.1.trans (hb3.mono ZK.out.2.2.1.size))
          have hEl : (untL s.rules xs).length ≤ 19 := by rw [untL_len]; omega
          obtain ⟨E, hE⟩ : ∃ E, E = untL s.rules xs := ⟨_, rfl⟩
          rw [← hE] at ho3 hEl HZE
          obtain ⟨ao, co, rfl⟩ := own_shape ho3
          have O3 := Lib.hid ho3
          clear hE hb3 ho3 q0 q1 q2 g0 g1 ZK HUN
          go_wp2
          go_loopw [9] (fun i wx => ∃ m : Nat, m ≤ E.length ∧ i = .int .i64 ((m : Int) + 1) ∧ Hid (∀ (j : Nat) (hj : j + 1 < E.length), j < m → E[j] < E[j + 1]) ∧ Hid (wx.ownsRow (wr.heap.size + 2) 3 1 (.slice ao E.length co) E.length (E.flatMap encJ)) ∧ Hid (Below w.heap.size w wx)) (fun i _ => (E.length + 1 - intOf i).toNat)
          case atStart => exact ⟨0, Nat.zero_le _, rfl, fun j hj h => by omega, O3, B3⟩
          case round =>
            obtain ⟨m, hm, rfl, HM, OM, BM⟩ := hrel
            by_cases hlt : m + 1 < E.length
            · have hmi : (m : Int) + 1 < (E.length : Int) := by omega
              obtain ⟨b, rfl, hb, c1⟩ := ent_of_own OM.out m (by omega)
              obtain ⟨b', e', -, c2⟩ := ent_of_own OM.out (m + 1) hlt
              simp only [Option.some.injEq, Addr.mk.injEq, and_true] at e'
              subst e'
              have t1 : ((m : Int) + 1).toNat = m + 1 := by omega
              have hmi2 : (m : Int) < (E.length : Int) := by omega
              by_cases hc : E[m + 1] ≤ E[m]
              · have HB : Hid (zonE s.rules ⟨nm, xs⟩ = 8) := by
                  show _ = _
                  rw [HZE.out, if_neg]
                  intro h
                  have := (riseB_iff E).1 h m hlt
                  omega
                generalize E[m + 1] = y at *
                generalize E[m] = x at *
                go_wp2
                go_quiet (fail)
                go_wp2
                go_ret
                exact ⟨ret_int HB.out.symm, below_draws BM.out _⟩
              · have HM2 : Hid (∀ (j : Nat) (hj : j + 1 < E.length), j < m + 1 → E[j] < E[j + 1]) := by
                  show ∀ (j : Nat) (hj : j + 1 < E.length), _
                  intro j hj h
                  by_cases e : j = m
                  · subst e; omega
                  · exact HM.out j hj (by omega)
                generalize E[m + 1] = y at *
                generalize E[m] = x at *
                go_wp2
                go_quiet (fail)
                go_wp2
                go_roundw
                case rel => exact ⟨m + 1, by omega, by go_num, HM2, ownsRow_below OM.out (below_draws (Below.refl _ _) _) (Nat.le_refl _), below_draws BM.out _⟩
                case measure => simp [intOf]; omega
            · have hmi : ¬ (m : Int) + 1 < (E.length : Int) := by omega
              have HB : Hid (zonE s.rules ⟨nm, xs⟩ = 0) := by
                show _ = _
                rw [HZE.out, if_pos]
                exact (riseB_iff E).2 fun j hj => HM.out j hj (by omega)
              clear hlt
              go_wp2
              go_ret
              exact ⟨ret_int HB.out.symm, BM.out⟩
end Go.Proofs.YtbikdlcjbigafaaGreatDoor
namespace Go.Proofs.YtbikdlcjbigafaaGreatDoor
set_option linter.unusedVariables false
set_option linter.unusedSimpArgs false
open Go.ChangeShapes Go.WideShapes Go.ChangeAt Go.RowKit Civ

end Go.Proofs.YtbikdlcjbigafaaGreatDoor
