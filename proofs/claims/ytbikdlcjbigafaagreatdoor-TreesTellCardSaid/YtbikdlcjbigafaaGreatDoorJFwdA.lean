/-
  What is wrong with spans: both checks answer it.
-/
import Derived.Test.YtbikdlcjbigafaaGreatDoorJCivT
import Derived.Test.YtbikdlcjbigafaaGreatDoorJTreeT
namespace Go.Proofs.YtbikdlcjbigafaaGreatDoor
set_option linter.unusedVariables false
set_option linter.unusedSimpArgs false
open Go.ChangeShapes Go.WideShapes Go.ChangeAt Go.RowKit

/-- where the span ahead of number i begins. -/
def prevF (xs : List Spn) (i : Nat) : Int := match xs[i - 1]? with | some s => s.fr | none => 0
def fsE (xs : List Spn) (i : Nat) (x : Spn) : Int :=
  if 24 < x.ck.nm.size then 1
  else if x.fr < -2208988800 ∨ 4102444800 ≤ x.fr ∨ x.ck.off < -172800 ∨ 172800 < x.ck.off then 2
  else if (i = 0 ∧ x.fr ≠ -2208988800) ∨ (0 < i ∧ x.fr ≤ prevF xs i) then 8 else 0
def spnE (xs : List Spn) : Int := if xs.length = 0 then 6 else if 1000 < xs.length then 1 else ferr (fsE xs) 0 xs
theorem prevF_at {xs : List Spn} {i : Nat} (h0 : 0 < i) (h : i - 1 < xs.length) : prevF xs i = xs[i - 1].fr := by
  unfold prevF
  rw [List.getElem?_eq_getElem h]
theorem spE_cases (xs : List Spn) (i : Nat) (x : Spn) :
    (24 < (x.ck.nm.size : Int) ∧ fsE xs i x = 1) ∨
    ((x.ck.nm.size : Int) ≤ 24 ∧ x.fr < -2208988800 ∧ fsE xs i x = 2) ∨
    ((x.ck.nm.size : Int) ≤ 24 ∧ -2208988800 ≤ x.fr ∧ 4102444800 ≤ x.fr ∧ fsE xs i x = 2) ∨
    ((x.ck.nm.size : Int) ≤ 24 ∧ -2208988800 ≤ x.fr ∧ x.fr < 4102444800 ∧ x.ck.off < -172800 ∧ fsE xs i x = 2) ∨
    ((x.ck.nm.size : Int) ≤ 24 ∧ -2208988800 ≤ x.fr ∧ x.fr < 4102444800 ∧ -172800 ≤ x.ck.off ∧ 172800 < x.ck.off ∧ fsE xs i x = 2) ∨
    ((x.ck.nm.size : Int) ≤ 24 ∧ -2208988800 ≤ x.fr ∧ x.fr < 4102444800 ∧ -172800 ≤ x.ck.off ∧ x.ck.off ≤ 172800 ∧
      ((i = 0 ∧ x.fr ≠ -2208988800 ∧ fsE xs i x = 8) ∨ (i = 0 ∧ x.fr = -2208988800 ∧ fsE xs i x = 0) ∨ (0 < i ∧ x.fr ≤ prevF xs i ∧ fsE xs i x = 8) ∨ (0 < i ∧ prevF xs i < x.fr ∧ fsE xs i x = 0))) := by
  by_cases a1 : 24 < x.ck.nm.size
  · exact .inl ⟨by omega, by unfold fsE; rw [if_pos a1]⟩
  · have b1 : (x.ck.nm.size : Int) ≤ 24 := by omega
    refine .inr ?_
    by_cases a2 : x.fr < -2208988800
    · exact .inl ⟨b1, a2, by unfold fsE; rw [if_neg a1, if_pos (.inl a2)]⟩
    · refine .inr ?_
      have b2 : -2208988800 ≤ x.fr := by omega
      by_cases a3 : 4102444800 ≤ x.fr
      · exact .inl ⟨b1, b2, a3, by unfold fsE; rw [if_neg a1, if_pos (.inr (.inl a3))]⟩
      · refine .inr ?_
        have b3 : x.fr < 4102444800 := by omega
        by_cases a4 : x.ck.off < -172800
        · exact .inl ⟨b1, b2, b3, a4, by unfold fsE; rw [if_neg a1, if_pos (.inr (.inr (.inl a4)))]⟩
        · refine .inr ?_
          have b4 : -172800 ≤ x.ck.off := by omega
          by_cases a5 : 172800 < x.ck.off
          · exact .inl ⟨b1, b2, b3, b4, a5, by unfold fsE; rw [if_neg a1, if_pos (.inr (.inr (.inr a5)))]⟩
          · have a6 : ¬ (x.fr < -2208988800 ∨ 4102444800 ≤ x.fr ∨ x.ck.off < -172800 ∨ 172800 < x.ck.off) := fun h => h.elim a2 fun h => h.elim a3 fun h => h.elim a4 a5
            refine .inr ⟨b1, b2, b3, b4, by omega, ?_⟩
            by_cases z : i = 0
            · by_cases y : x.fr = -2208988800
              · exact .inr (.inl ⟨z, y, by unfold fsE; rw [if_neg a1, if_neg a6, if_neg (fun h => h.elim (fun h => h.2 y) fun h => absurd h.1 (by omega))]⟩)
              · exact .inl ⟨z, y, by unfold fsE; rw [if_neg a1, if_neg a6, if_pos (.inl ⟨z, y⟩)]⟩
            · by_cases y : x.fr ≤ prevF xs i
              · exact .inr (.inr (.inl ⟨by omega, y, by unfold fsE; rw [if_neg a1, if_neg a6, if_pos (.inr ⟨by omega, y⟩)]⟩))
              · exact .inr (.inr (.inr ⟨by omega, by omega, by unfold fsE; rw [if_neg a1, if_neg a6, if_neg (fun h => h.elim (fun h => z h.1) fun h => y h.2)]⟩))
theorem spE_zero {xs : List Spn} {i : Nat} {x : Spn} (h : fsE xs i x = 0) : -2208988800 ≤ x.fr ∧ x.fr < 4102444800 ∧ x.ck.nm.size ≤ 24 ∧ -172800 ≤ x.ck.off ∧ x.ck.off ≤ 172800 ∧ (0 < i → prevF xs i < x.fr) ∧ (i = 0 → x.fr = -2208988800) := by
  rcases spE_cases xs i x with ⟨_, h'⟩ | ⟨_, _, h'⟩ | ⟨_, _, _, h'⟩ | ⟨_, _, _, _, h'⟩ | ⟨_, _, _, _, _, h'⟩ | ⟨q1, q2, q3, q4, q5, h'⟩
  iterate 5 (rw [h] at h'; omega)
  rcases h' with ⟨_, _, h'⟩ | ⟨e, e', h'⟩ | ⟨_, _, h'⟩ | ⟨e, e', h'⟩
  · rw [h] at h'; omega
  · exact ⟨q2, q3, by omega, q4, q5, fun h => by omega, fun _ => e'⟩
  · rw [h] at h'; omega
  · exact ⟨q2, q3, by omega, q4, q5, fun _ => e', fun h => by omega⟩
theorem elemSpn {w : World} {aa : Option Addr} {n ca : Nat} {xs : List Spn} (h : SlAt w 4 RSpn (.slice aa n ca) xs) (k : Nat) (hk : k < xs.length) :
    ∃ b off, aa = some ⟨b, off, none⟩ ∧ b < w.heap.size ∧
      (w.cell? ⟨b, off + k * 4, none⟩ = some (.int .i64 xs[k].fr) ∧ w.cell? ⟨b, off + k * 4 + 1, none⟩ = some (.int .i64 xs[k].ck.off) ∧ w.cell? ⟨b, off + k * 4 + 2, none⟩ = some (.bool xs[k].ck.sav) ∧ w.cell? ⟨b, off + k * 4 + 3, none⟩ = some (.string xs[k].ck.nm)) ∧ I64 xs[k].fr ∧ I64 xs[k].ck.off ∧ xs[k].ck.nm.size ≤ maxLen := by
  rcases h with ⟨a, cap, hv, rfl⟩ | ⟨b, off, cap, hv, h0, h1, h2, h3, h4⟩
  · simp at hk
  · obtain ⟨cs, _, ⟨rfl, r1, r2, r3⟩, c3⟩ := h4 k hk
    simp only [Value.slice.injEq] at hv
    exact ⟨b, off, hv.1, h3, ⟨c3 0 (by omega), c3 1 (by omega), c3 2 (by omega), c3 3 (by omega)⟩, r1, r2, r3⟩
set_option maxRecDepth 100000 in
set_option maxHeartbeats 4000000 in
theorem checkSpans_any (v : Value) (xs : List Spn) (w : World) (hv : SlAt w 4 RSpn v xs) :
    Calls Tryz.prog 48 #[v] w fun e w' => e = .returned (.int .i64 (spnE xs)) ∧ Below w.heap.size w w' := by
  obtain ⟨an, cn, rfl, ln⟩ := hv.shape
  have ln' := maxLen_eq _ ln
  have HN := Lib.hid hv
  clear hv ln
  by_cases h0 : xs.length = 0
  · have hb : ((xs.length : Int) == 0) = true := by simpa using h0
    have HE : Hid (spnE xs = 6) := by show spnE _ = 6; unfold spnE; rw [if_pos h0]
    clear h0
    go_enter Tryz.func48, Tryz.ntmps48
    go_wp2_with (go_at_call 11; refine (winIn _).mono ?_; rintro e w' ⟨rfl, rfl⟩)
    go_ret
    exact ⟨ret_int HE.out.symm, Below.refl _ _⟩
  · have hb : ((xs.length : Int) == 0) = false := by rw [beq_eq_false_iff_ne]; omega
    by_cases h1 : 1000 < xs.length
    · have HE : Hid (spnE xs = 1) := by show spnE _ = 1; unfold spnE; rw [if_neg h0, if_pos h1]
      have hx : 1000 < (xs.length : Int) := by omega
      clear h0 h1
      go_enter Tryz.func48, Tryz.ntmps48
      go_wp2_with (go_at_call 11; refine (winIn _).mono ?_; rintro e w' ⟨rfl, rfl⟩)
      go_ret
      exact ⟨ret_int HE.out.symm, Below.refl _ _⟩
    · have hx : (xs.length : Int) ≤ 1000 := by omega
      have HE : Hid (spnE xs = ferr (fsE xs) 0 xs) := by show spnE _ = _; unfold spnE; rw [if_neg h0, if_neg h1]
      clear h0 h1
      go_enter Tryz.func48, Tryz.ntmps48
      go_wp2_with (go_at_call 11; refine (winIn _).mono ?_; rintro e w' ⟨rfl, rfl⟩)
      go_loopw [19] (fun t wr => ∃ k : Nat, k ≤ xs.length ∧ t = .int .i64 k ∧ Hid (∀ i (hi : i < xs.length), i < k → fsE xs i xs[i] = 0) ∧ Below w.heap.size w wr) (fun t _ => (xs.length - intOf t).toNat)
      case atStart => exact ⟨0, by omega, rfl, fun i _ h => by omega, Below.refl _ _⟩
      case round =>
        obtain ⟨k, hk, rfl, hz, hbr⟩ := hrel
        obtain ⟨hc, hf⟩ := bcell hbr
        by_cases hlt : k < xs.length
        · obtain ⟨b, off, rfl, hbb, ⟨c0, c1, c2, c3⟩, _, _, hnm⟩ := elemSpn HN.out k hlt
          have hnm' := maxLen_eq _ hnm
          have d0 := (hc _ (off + k * 4) hbb).trans c0
          have d1 := (hc _ (off + k * 4 + 1) hbb).trans c1
          have d2 := (hc _ (off + k * 4 + 2) hbb).trans c2
          have d3 := (hc _ (off + k * 4 + 3) hbb).trans c3
          have hprev : Hid (0 < k → wr.cell? ⟨b, off + (k - 1) * 4, none⟩ = some (.int .i64 (prevF xs k)) ∧ -2208988800 ≤ prevF xs k) := fun h0 => by
            obtain ⟨b', off', hbo, hbb', ⟨e0, _⟩, _⟩ := elemSpn HN.out (k - 1) (by omega)
            obtain ⟨rfl, rfl⟩ : b = b' ∧ off = off' := by simpa using hbo
            rw [prevF_at h0 (by omega)]
            refine ⟨(hc _ _ hbb).trans e0, ?_⟩
            exact (spE_zero (hz.out (k - 1) (by omega) (by omega))).1
          have hbad : Hid (∀ r : Int, r ≠ 0 → fsE xs k xs[k] = r → spnE xs = r) := fun r hr h => by
            have := ferr_at (fsE xs) xs 0 k hlt (fun i hi => by simpa using hz.out i (by omega) hi) (by simpa [h] using hr)
            simp only [Nat.zero_add] at this
            rw [HE.out]; exact this.trans h
          have hgood : Hid (fsE xs k xs[k] = 0 → Hid (∀ i (hi : i < xs.length), i < k + 1 → fsE xs i xs[i] = 0)) := fun h i hi h' => by
            by_cases e : i = k
            · subst e; exact h
            · exact hz.out i hi (by omega)
          have hcase := spE_cases xs k xs[k]
          have hbw : b < wr.heap.size := Nat.lt_of_lt_of_le hbb hbr.size
          clear hc hf hz c0 c1 c2 c3 hnm
          generalize xs[k] = x at *
          rcases hcase with ⟨q1, hr⟩ | ⟨q1, q2, hr⟩ | ⟨q1, q2, q3, hr⟩ | ⟨q1, q2, q3, q4, hr⟩ | ⟨q1, q2, q3, q4, q5, hr⟩ | ⟨q1, q2, q3, q4, q5, hcase⟩
          iterate 5
            · have HR := Lib.hid (hbad.out _ (by omega) hr)
              clear hr
              go_wp2
              go_ret
              exact ⟨ret_int HR.out.symm, hbr.alloc hbr.size _⟩
          · have HP := hprev
            rcases hcase with ⟨q0, q6, hr⟩ | ⟨q0, q6, hr⟩ | ⟨q0, q6, hr⟩ | ⟨q0, q6, hr⟩
            · have t1 : (x.fr == -2208988800) = false := beq_eq_false_iff_ne.2 q6
              have t2 : ((k : Int) == 0) = true := by rw [beq_iff_eq]; omega
              have t3 : (k : Int) ≤ 0 := by omega
              have HR := Lib.hid (hbad.out _ (by omega) hr)
              clear hr q6 q0 hprev
              go_wp2
              go_quiet (fail)
              go_wp2
              go_ret
              exact ⟨ret_int HR.out.symm, below_draws (hbr.alloc hbr.size _) _⟩
            · have t1 : (x.fr == -2208988800) = true := by rw [beq_iff_eq]; exact q6
              have t2 : ((k : Int) == 0) = true := by rw [beq_iff_eq]; omega
              have t3 : decide ((0 : Int) < (k : Int)) = false := by rw [decide_eq_false_iff_not]; omega
              have t3' : decide (0 < k) = false := by rw [decide_eq_false_iff_not]; omega
              have HR := hgood.out hr
              clear hr q6 q0 hprev
              go_wp2
              go_quiet (fail)
              go_wp2
              go_roundw
              case rel => exact ⟨k + 1, by omega, by go_num, HR, below_draws (hbr.alloc hbr.size _) _⟩
              case measure => simp [intOf]; omega
            · obtain ⟨e0, e1⟩ := hprev.out q0
              have t2 : ((k : Int) == 0) = false := by rw [beq_eq_false_iff_ne]; omega
              have t3 : decide ((0 : Int) < (k : Int)) = true := by rw [decide_eq_true_eq]; omega
              have t3' : decide (0 < k) = true := by rw [decide_eq_true_eq]; omega
              have t7 : IntKind.i64.wrap ((k : Int) - 1) = (k : Int) - 1 := IntWalk.i64_in _ (by omega)
              have t4 : ((k : Int) - 1).toNat = k - 1 := by omega
              have t5 : (0 : Int) ≤ (k : Int) - 1 := by omega
              have t6 : (k : Int) - 1 < (xs.length : Int) := by omega
              have HR := Lib.hid (hbad.out _ (by omega) hr)
              generalize prevF xs k = pv at *
              by_cases q7 : x.fr = -2208988800
              · have t1 : (x.fr == -2208988800) = true := by rw [beq_iff_eq]; exact q7
                have t8 : decide (x.fr ≤ pv) = true := by rw [decide_eq_true_eq]; exact q6
                clear hr q0 q7 hprev
                go_wp2
                go_quiet (fail)
                go_wp2
                go_ret
                exact ⟨ret_int HR.out.symm, below_draws (hbr.alloc hbr.size _) _⟩
              · have t1 : (x.fr == -2208988800) = false := beq_eq_false_iff_ne.2 q7
                have t8 : decide (x.fr ≤ pv) = true := by rw [decide_eq_true_eq]; exact q6
                clear hr q0 q7 hprev
                go_wp2
                go_quiet (fail)
                go_wp2
                go_ret
                exact ⟨ret_int HR.out.symm, below_draws (hbr.alloc hbr.size _) _⟩
            · obtain ⟨e0, e1⟩ := hprev.out q0
              have t2 : ((k : Int) == 0) = false := by rw [beq_eq_false_iff_ne]; omega
              have t3 : decide ((0 : Int) < (k : Int)) = true := by rw [decide_eq_true_eq]; omega
              have t3' : decide (0 < k) = true := by rw [decide_eq_true_eq]; omega
              have t7 : IntKind.i64.wrap ((k : Int) - 1) = (k : Int) - 1 := IntWalk.i64_in _ (by omega)
              have t4 : ((k : Int) - 1).toNat = k - 1 := by omega
              have t5 : (0 : Int) ≤ (k : Int) - 1 := by omega
              have t6 : (k : Int) - 1 < (xs.length : Int) := by omega
              have HR := hgood.out hr
              generalize prevF xs k = pv at *
              have t1 : (x.fr == -2208988800) = false := by rw [beq_eq_false_iff_ne]; omega
              have t8 : decide (x.fr ≤ pv) = false := by rw [decide_eq_false_iff_not]; omega
              clear hr q0 hprev
              go_wp2
              go_quiet (fail)
              go_wp2
              go_roundw
              case rel => exact ⟨k + 1, by omega, by go_num, HR, below_draws (hbr.alloc hbr.size _) _⟩
              case measure => simp [intOf]; omega
        · have HS : Hid (spnE xs = 0) := by
            show spnE xs = 0
            rw [HE.out]
            exact ferr_none (fsE xs) xs 0 (fun i hi => by simpa using hz.out i hi (by omega))
          clear hz hc hf
          go_wp2
          go_ret
          exact ⟨ret_int HS.out.symm, hbr⟩
end Go.Proofs.YtbikdlcjbigafaaGreatDoor
