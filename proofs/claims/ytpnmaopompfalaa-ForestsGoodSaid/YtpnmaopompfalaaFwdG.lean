/-
  The edges of spans, the window, the clock of spans at an instant.
-/
import Derived.Test.YtpnmaopompfalaaFwdF
namespace Go.Proofs.Ytpnmaopompfalaa
set_option linter.unusedVariables false
set_option linter.unusedSimpArgs false
open Go.ChangeShapes Go.WideShapes Go.ChangeAt Go.RowKit

set_option maxHeartbeats 1000000 in
theorem edges_any (v : Value) (spn : List Spn) (w : World) (hv : SlAt w 4 RSpn v spn) (hr : spn.length * 8 ≤ 140737488355320) :
    Calls Try.prog 29 #[v, .bool false] w fun e w' => ∃ v xs, e = .returned v ∧ SlAt w' 1 RInt v xs ∧ Below w.heap.size w w' := by
  obtain ⟨an, cn, rfl, ln⟩ := hv.shape
  have ln' := maxLen_eq _ ln
  have HN := Lib.hid hv
  clear hv ln
  obtain ⟨i0, hi, hz0, hz1, hz2⟩ := info_parts info_int
  go_enter Try.func29, Try.ntmps29
  go_wp2
  go_loopw [5, 6] (fun v t wr => ∃ k : Nat, k ≤ spn.length ∧ t = .int .i64 k ∧ (∃ xs : List Int, xs.length ≤ k ∧ Hid (∀ x ∈ xs, I64 x) ∧ wr.ownsRow w.heap.size 3 1 v xs.length (xs.flatMap encI)) ∧ Below w.heap.size w wr) (fun _ t _ => (spn.length - intOf t).toNat)
  case atStart => exact ⟨0, by omega, rfl, ⟨[], by simp, fun x hx => by simp at hx, World.ownsRow_nil _ _ _ _⟩, Below.refl _ _⟩
  case round =>
    obtain ⟨k, hk, rfl, ⟨xs, hx, hx64, hown⟩, hbr⟩ := hrel
    by_cases hlt : k < spn.length
    · obtain ⟨b, off, rfl, hbb, ⟨c0, c1, c2, c3⟩, h64, _, _⟩ := elemSpn HN.out k hlt
      have d0 := (hbr.cell (p := ⟨b, off + k * 4, none⟩) hbb).trans c0
      have H64 := Lib.hid h64
      clear c0 c1 c2 c3 h64
      generalize spn[k] = y at *
      have hsz := hbr.size
      go_wp2_with (at_builtin; refine wpList_append_own _ rfl _ _ 25 rfl w.heap.size 3 i0 (.int .i64 0) 1 8 Try.underlying25 hi (by assumption) hz1 hz2 rfl (by decide) _ _ _ rfl (hown.alloc _) ⟨wr.heap.size, 0, none⟩ 1 1 [.int .i64 y.fr] rfl rfl (one_cell _ _ _) (by intro u hu; simp at hu; subst hu; rfl) (by unfold maxLen; omega) (by omega) (by rw [size_alloc]; omega) ?_; intro v' w1 hown' hgrow _)
      have hB : Below w.heap.size w w1 := (hbr.alloc hsz _).grown hgrow (by rw [size_alloc]; omega) (fun g hg => (hown.lt g hg).1)
      have HO := own_snoc hown'
      have H6 : Hid (∀ x ∈ xs ++ [y.fr], I64 x) := fun x hx => by
        rcases List.mem_append.1 hx with h | h
        · exact hx64.out x h
        · simp at h; subst h; exact H64.out
      clear hown' hgrow
      go_wp2
      go_roundw
      case rel => exact ⟨k + 1, by omega, by go_num, ⟨xs ++ [y.fr], by simp; omega, H6, HO⟩, hB⟩
      case measure => simp [intOf]; omega
    · go_wp2
      go_ret
      exact ⟨_, xs, rfl, ints_of_own hx64.out hown, hbr⟩
def insB (t : Int) : Bool := decide (-2208988800 ≤ t) && decide (t < 4102444800)
theorem inside_lit (t : Int) (r : Bool) (w : World) (hr : insB t = r) :
    Calls Try.prog 30 #[.int .i64 t] w fun e w' => e = .returned (.bool r) ∧ w = w' := by
  have H := Lib.hid hr.symm
  clear hr
  go_enter Try.func30, Try.ntmps30
  go_wp2_with (go_at_call 69; refine (winOf _).mono ?_; rintro e w' ⟨rfl, rfl⟩)
  all_goals (go_ret; exact ⟨ret_bool (by go_light; rw [H.out]; unfold insB; first | (simp [*]; done) | (simp [*]; omega)), rfl⟩)
def clkW (w : World) (c : Obj) (y : Clk) : World := (w.alloc c).alloc (.cells #[.int .i64 y.off, .bool y.sav, .string y.nm] 24)
/-- the number of the span that an instant belongs to, among the first k. -/
def AtSpan (xs : List Spn) (t : Int) (k i : Nat) : Prop := i < k ∧ (∃ h : i < xs.length, i = 0 ∨ xs[i].fr ≤ t) ∧ ∀ j (h : j < xs.length), i < j → j < k → t < xs[j].fr
set_option maxHeartbeats 1000000 in
theorem spanAt_any (v : Value) (xs : List Spn) (t : Int) (w : World) (hv : SlAt w 4 RSpn v xs) (h0 : 0 < xs.length) :
    Calls Try.prog 33 #[v, .int .i64 t] w fun e w' => ∃ (i : Nat) (h : i < xs.length), e = .returned (.agg #[.int .i64 xs[i].ck.off, .bool xs[i].ck.sav, .string xs[i].ck.nm]) ∧ AtSpan xs t xs.length i ∧ Below w.heap.size w w' := by
  obtain ⟨an, cn, rfl, ln⟩ := hv.shape
  have ln' := maxLen_eq _ ln
  obtain ⟨b, off, rfl, hbb, ⟨c0, c1, c2, c3⟩, _, _, _⟩ := elemSpn hv 0 h0
  rw [Nat.zero_mul, Nat.add_zero] at c0 c1 c2 c3
  have HN := Lib.hid hv
  have HA : Hid (∃ h : 0 < xs.length, AtSpan xs t 1 0 ∧ xs[0] = xs[0]) := ⟨h0, ⟨by omega, ⟨h0, .inl rfl⟩, fun j _ a b => by omega⟩, rfl⟩
  have hx0 : (0 : Int) < (xs.length : Int) := by omega
  clear hv ln
  have HX0 := Lib.hid h0
  generalize hx : xs[0] = x at c0 c1 c2 c3
  have HX := Lib.hid hx
  clear hx
  go_enter Try.func33, Try.ntmps33
  go_wp2
  go_loopw [6] (fun i wr => ∃ (k m : Nat) (y : Clk), 1 ≤ k ∧ k ≤ xs.length ∧ i = .int .i64 k ∧ wr = clkW w (.cells #[.int .i64 0, .bool false, .string ⟨#[]⟩] 24) y ∧ Hid (AtSpan xs t k m ∧ ∃ h : m < xs.length, xs[m].ck = y)) (fun i _ => (xs.length - intOf i).toNat)
  case atStart => exact ⟨1, 0, x.ck, by omega, by omega, rfl, rfl, ⟨⟨by omega, ⟨h0, .inl rfl⟩, fun j _ a b => by omega⟩, h0, congrArg Spn.ck HX.out⟩⟩
  case round =>
    obtain ⟨k, m, y, hk1, hk, rfl, rfl, hat⟩ := hrel
    clear c0 c1 c2 c3
    by_cases hlt : k < xs.length
    · obtain ⟨b', off', hbo, _, ⟨d0, d1, d2, d3⟩, _, _, _⟩ := elemSpn HN.out k hlt
      obtain ⟨rfl, rfl⟩ : b = b' ∧ off = off' := by simpa using hbo
      have hstep : Hid ((xs[k].fr ≤ t → AtSpan xs t (k + 1) k) ∧ (t < xs[k].fr → AtSpan xs t (k + 1) m)) := by
        obtain ⟨a1, a2, a3⟩ := hat.out.1
        refine ⟨fun h => ⟨by omega, ⟨hlt, .inr h⟩, fun j _ p q => by omega⟩, fun h => ⟨by omega, a2, fun j hj p q => ?_⟩⟩
        by_cases e : j = k
        · subst e; exact h
        · exact a3 j hj p (by omega)
      have hek : Hid (xs[k].ck = xs[k].ck) := rfl
      obtain ⟨z, hz⟩ : ∃ z, z = xs[k] := ⟨_, rfl⟩
      rw [← hz] at d0 d1 d2 d3
      have HZ := Lib.hid hz
      have HST : Hid ((z.fr ≤ t → AtSpan xs t (k + 1) k) ∧ (t < z.fr → AtSpan xs t (k + 1) m)) := by rw [hz]; exact hstep.out
      clear hz hek hstep hbo
      by_cases hle : z.fr ≤ t
      · have H1 : Hid (AtSpan xs t (k + 1) k ∧ ∃ h : k < xs.length, xs[k].ck = z.ck) := ⟨HST.out.1 hle, hlt, by rw [HZ.out]⟩
        unfold clkW
        go_wp2
        go_roundw
        case rel => exact ⟨k + 1, k, z.ck, by omega, by omega, by go_num, rfl, H1⟩
        case measure => simp [intOf]; omega
      · have H1 : Hid (AtSpan xs t (k + 1) m ∧ ∃ h : m < xs.length, xs[m].ck = y) := ⟨HST.out.2 (by omega), hat.out.2⟩
        unfold clkW
        go_wp2
        go_roundw
        case rel => exact ⟨k + 1, m, y, by omega, by omega, by go_num, rfl, H1⟩
        case measure => simp [intOf]; omega
    · have hfin : Hid (AtSpan xs t xs.length m ∧ ∃ h : m < xs.length, xs[m].ck = y) := by
        have e : k = xs.length := by omega
        have h2 := hat.out.1
        exact ⟨by rw [e] at h2; exact h2, hat.out.2⟩
      unfold clkW
      go_wp2
      obtain ⟨ha, hm, rfl⟩ := hfin.out
      exact bodyPost_ret (v := .agg #[.int .i64 xs[m].ck.off, .bool xs[m].ck.sav, .string xs[m].ck.nm]) (by simp [results, Try.results33, go_sem]) rfl ⟨m, hm, rfl, ha, ((Below.refl _ _).alloc (Nat.le_refl _) _).alloc (size_le_push_ w _) _⟩
end Go.Proofs.Ytpnmaopompfalaa
