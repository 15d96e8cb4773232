/-
  What the functions on answers and forests answer: answers.
-/
import Derived.Test.YtlhidbbphngpcaaDoorBase
import Derived.Shelf.Abstract
namespace Go.Proofs.YtlhidbbphngpcaaDoor
set_option linter.unusedVariables false
set_option linter.unusedSimpArgs false
open Go.ChangeShapes Go.WideShapes Go.ChangeAt Go.RowKit

def oddB (n : Int) : Bool := decide (n < -172800) || decide (172800 < n)
theorem odd_any (n : Int) (w : World) :
    Calls Tryd.prog 76 #[.int .i64 n] w fun e w' => e = .returned (.bool (oddB n)) ∧ w = w' := by
  unfold oddB
  go_enter Tryd.func76, Tryd.ntmps76
  go_wp2
  all_goals (go_ret; exact ⟨ret_bool (by go_light; first | (simp [*]; done) | (simp [*]; omega)), rfl⟩)
/-- where the first one is; -1: none. -/
def fidx {α : Type} (p : α → Bool) : List α → Int
  | [] => -1
  | x :: xs => if p x then 0 else if fidx p xs < 0 then -1 else fidx p xs + 1
theorem fidx_lo {α : Type} (p : α → Bool) : ∀ xs : List α, -1 ≤ fidx p xs ∧ fidx p xs < xs.length
  | [] => by simp [fidx]
  | x :: xs => by
    have := fidx_lo p xs
    unfold fidx; split
    · simp
    · split <;> simp <;> omega
/-- the first at which it holds: at k, none ahead of it. -/
theorem fidx_at {α : Type} (p : α → Bool) : ∀ (xs : List α) (k : Nat) (h : k < xs.length), (∀ i (hi : i < k), p (xs[i]'(by omega)) = false) → p xs[k] = true → fidx p xs = k
  | x :: xs, 0, _, _, hp => by unfold fidx; simp at hp; simp [hp]
  | x :: xs, k + 1, h, hn, hp => by
    have h0 := hn 0 (by omega)
    simp at h0
    have ih := fidx_at p xs k (by simpa using h) (fun i hi => by have := hn (i + 1) (by omega); simpa using this) (by simpa using hp)
    unfold fidx; simp [h0]; omega
theorem fidx_none {α : Type} (p : α → Bool) : ∀ (xs : List α), (∀ i (hi : i < xs.length), p xs[i] = false) → fidx p xs = -1
  | [], _ => rfl
  | x :: xs, hn => by
    have h0 := hn 0 (by simp)
    simp at h0
    have ih := fidx_none p xs (fun i hi => by have := hn (i + 1) (by simpa using hi); simpa using this)
    unfold fidx; simp [h0, ih]
theorem fidx_any {α : Type} (p : α → Bool) : ∀ (xs : List α), decide (0 ≤ fidx p xs) = xs.any p
  | [] => rfl
  | x :: xs => by
    have ih := fidx_any p xs
    have hb := fidx_lo p xs
    unfold fidx
    cases h : p x
    · simp [h]
      rw [← ih]
      split <;> simp <;> omega
    · simp [h]
/-- the cell of element i. -/
theorem intCell {w : World} {b off : Nat} {xs : List Int} (h4 : ∀ (i : Nat) (h : i < xs.length), ∃ cs : List Value, cs.length = 1 ∧ RInt cs xs[i] ∧ ∀ j, j < 1 → w.cell? ⟨b, off + i * 1 + j, none⟩ = cs[j]?) (i : Nat) (h : i < xs.length) :
    w.cell? ⟨b, off + i, none⟩ = some (.int .i64 xs[i]) ∧ I64 xs[i] := by
  obtain ⟨cs, _, ⟨rfl, hw⟩, hc⟩ := h4 i h
  have := hc 0 (by omega)
  rw [Nat.mul_one, Nat.add_zero] at this
  exact ⟨this, hw⟩
set_option maxHeartbeats 400000 in
set_option maxRecDepth 100000 in
theorem idxInt_any (p : Int → Bool) (F : Nat) (v : Value) (xs : List Int) (w : World) (hv : SlAt w 1 RInt v xs) (eg : ∀ args w, (callFunc F args).run Tryd.prog w = .ok (.enter F args) w) (hF : ∀ (x : Int) (w : World), Calls Tryd.prog F #[.int .i64 x] w fun e w' => e = .returned (.bool (p x)) ∧ w = w') :
    Calls Tryd.prog 91 #[v, .func (.func F) #[] #[]] w fun e w' => e = .returned (.int .i64 (fidx p xs)) ∧ w = w' := by
  have HF := Lib.hid hF
  clear hF
  rcases hv with ⟨a, cap, rfl, rfl⟩ | ⟨b, off, cap, rfl, h0, h1, h2, h3, h4⟩
  · go_enter Tryd.func91, Tryd.ntmps91
    go_wp2
    refine wp_loop_rounds 1 ?_
    rw [rounds_succ]
    go_wp2
    go_ret
    exact ⟨rfl, rfl⟩
  · have H4 := Lib.hid (intCell h4)
    have h5 : xs.length ≤ 9223372036854775807 := by unfold maxLen at h2; omega
    clear h4 h2
    go_enter Tryd.func91, Tryd.ntmps91
    go_wp2
    go_loop [8] (fun t => ∃ k : Nat, k ≤ xs.length ∧ t = .int .i64 k ∧ Hid (∀ i (hi : i < xs.length), i < k → p xs[i] = false)) (fun t => (xs.length - intOf t).toNat)
    case atStart => exact ⟨0, by omega, rfl, fun i _ h => by omega⟩
    case round =>
      obtain ⟨k, hk, rfl, hn⟩ := hrel
      by_cases hlt : k < xs.length
      · have hc := (H4.out k hlt).1
        by_cases hp : p xs[k] = true
        · have hfin := Lib.hid (fidx_at p xs k hlt (fun i hi => hn.out i (by omega) hi) hp)
          generalize xs[k] = x at hc hp
          go_wp2_with fail
          refine (HF.out _ _).mono ?_; rintro e w' ⟨rfl, rfl⟩
          go_wp2
          go_ret
          exact ⟨ret_int hfin.out.symm, rfl⟩
        · have hp' : p xs[k] = false := by simpa using hp
          clear hp
          have hn' : Hid (∀ i (hi : i < xs.length), i < k + 1 → p xs[i] = false) := fun i hi h => by
            by_cases e : i = k
            · subst e; exact hp'
            · exact hn.out i hi (by omega)
          generalize xs[k] = x at hc hp'
          go_wp2_with fail
          refine (HF.out _ _).mono ?_; rintro e w' ⟨rfl, rfl⟩
          go_wp2
          go_round
          case rel => exact ⟨k + 1, by omega, by go_num, hn'⟩
          case measure => simp [intOf]; omega
      · have hfin := Lib.hid (fidx_none p xs (fun i hi => hn.out i hi (by omega)))
        go_wp2
        go_ret
        exact ⟨ret_int hfin.out.symm, rfl⟩
theorem contInt_any (p : Int → Bool) (F : Nat) (v : Value) (xs : List Int) (w : World) (hv : SlAt w 1 RInt v xs) (eg : ∀ args w, (callFunc F args).run Tryd.prog w = .ok (.enter F args) w) (hF : ∀ (x : Int) (w : World), Calls Tryd.prog F #[.int .i64 x] w fun e w' => e = .returned (.bool (p x)) ∧ w = w') :
    Calls Tryd.prog 77 #[v, .func (.func F) #[] #[]] w fun e w' => e = .returned (.bool (xs.any p)) ∧ w = w' := by
  have HI := Lib.hid (idxInt_any p F v xs w hv eg hF)
  have HA := Lib.hid (fidx_any p xs)
  clear hF eg hv
  go_enter Tryd.func77, Tryd.ntmps77
  go_wp2_with fail
  refine HI.out.mono ?_; rintro e w' ⟨rfl, rfl⟩
  go_wp2
  go_ret
  exact ⟨ret_bool HA.out, rfl⟩
def ansBad (a : Ans) : Bool := oddB a.ck.off || a.offs.any oddB || decide (a.jump < -1099511627776) || decide (1099511627776 < a.jump)
def ansBig (a : Ans) : Bool := decide (6 < (a.offs.length : Int)) || decide (24 < (a.ck.nm.size : Int))
/-- what is wrong with an answer. -/
def ansE (a : Ans) : Int := if ansBad a = true then 2 else if ansBig a = true then 1 else 0
theorem SlAt.shape {α : Type} {w : World} {sz : Nat} {R : List Value → α → Prop} {v : Value} {xs : List α} (h : SlAt w sz R v xs) : ∃ a cap, v = .slice a xs.length cap ∧ xs.length ≤ maxLen := by
  rcases h with ⟨a, cap, rfl, rfl⟩ | ⟨b, off, cap, rfl, h0, h1, h2, h3, h4⟩
  · exact ⟨a, cap, rfl, by simp⟩
  · exact ⟨_, cap, rfl, by omega⟩
theorem maxLen_eq (n : Nat) (h : n ≤ maxLen) : n ≤ 9223372036854775807 := by unfold maxLen at h; omega
theorem odd_lit (n : Int) (r : Bool) (w : World) (h : oddB n = r) :
    Calls Tryd.prog 76 #[.int .i64 n] w fun e w' => e = .returned (.bool r) ∧ w = w' := h ▸ odd_any n w
theorem contOdd_lit (v : Value) (xs : List Int) (r : Bool) (w : World) (hv : SlAt w 1 RInt v xs) (h : xs.any oddB = r) :
    Calls Tryd.prog 77 #[v, .func (.func 76) #[] #[]] w fun e w' => e = .returned (.bool r) ∧ w = w' :=
  h ▸ contInt_any oddB _ v xs w hv (enters_of Tryd.func76 (by kernel_rfl) rfl) odd_any
theorem ansE_2 {off jump : Int} {sav : Bool} {nm : ByteArray} {offs : List Int} (h : oddB off = true ∨ offs.any oddB = true ∨ jump < -1099511627776 ∨ 1099511627776 < jump) : ansE ⟨⟨off, sav, nm⟩, offs, jump⟩ = 2 := by
  unfold ansE; rw [if_pos]; unfold ansBad; rcases h with h | h | h | h <;> simp only [h, decide_true, Bool.or_true, Bool.true_or]
theorem ansE_1 {off jump : Int} {sav : Bool} {nm : ByteArray} {offs : List Int} (h1 : oddB off = false) (h2 : offs.any oddB = false) (h3 : -1099511627776 ≤ jump) (h4 : jump ≤ 1099511627776) (h5 : 6 < (offs.length : Int) ∨ 24 < (nm.size : Int)) : ansE ⟨⟨off, sav, nm⟩, offs, jump⟩ = 1 := by
  unfold ansE ansBad ansBig; rw [if_neg, if_pos]
  · simp only [Bool.or_eq_true, decide_eq_true_eq]; omega
  · simp only [h1, h2, Bool.or_eq_true, decide_eq_true_eq]; simp; omega
theorem ansE_0 {off jump : Int} {sav : Bool} {nm : ByteArray} {offs : List Int} (h1 : oddB off = false) (h2 : offs.any oddB = false) (h3 : -1099511627776 ≤ jump) (h4 : jump ≤ 1099511627776) (h5 : (offs.length : Int) ≤ 6) (h6 : (nm.size : Int) ≤ 24) : ansE ⟨⟨off, sav, nm⟩, offs, jump⟩ = 0 := by
  unfold ansE ansBad ansBig; rw [if_neg, if_neg]
  · simp only [Bool.or_eq_true, decide_eq_true_eq]; omega
  · simp only [h1, h2, Bool.or_eq_true, decide_eq_true_eq]; simp; omega
set_option maxRecDepth 100000 in
theorem checkanswer_any (a : Ans) (vo : Value) (w : World) (hv : SlAt w 1 RInt vo a.offs) (hn : a.ck.nm.size ≤ maxLen) :
    Calls Tryd.prog 56 #[.agg #[.int .i64 a.ck.off, .bool a.ck.sav, .string a.ck.nm, vo, .int .i64 a.jump]] w fun e w' => e = .returned (.int .i64 (ansE a)) ∧ Below w.heap.size w w' := by
  obtain ⟨ck, offs, jump⟩ := a
  obtain ⟨off, sav, nm⟩ := ck
  obtain ⟨ao, cap, rfl, hl⟩ := hv.shape
  have hl' := maxLen_eq _ hl
  have hn' := maxLen_eq _ hn
  have HV := Lib.hid hv
  clear hv hl hn
  dsimp only at hl' hn' HV ⊢
  cases ho : oddB off
  · have HO := Lib.hid ho
    clear ho
    cases ha : offs.any oddB
    · have HA := Lib.hid ha
      clear ha
      go_enter Tryd.func56, Tryd.ntmps56
      go_wp2_with (first | (go_at_call 76; refine (odd_lit _ false _ HO.out).mono ?_; rintro e w' ⟨rfl, rfl⟩) | (go_at_call 77; refine (contOdd_lit _ offs false _ (HV.out.mono ((Below.refl _ _).alloc (Nat.le_refl _) _) fun _ _ h => h) HA.out).mono ?_; rintro e w' ⟨rfl, rfl⟩))
      all_goals
        go_ret
        refine ⟨ret_int ?_, (Below.refl _ _).alloc (Nat.le_refl _) _⟩
        go_light
        first | (refine (ansE_2 ?_).symm; omega) | (refine (ansE_1 HO.out HA.out ?_ ?_ ?_).symm <;> omega) | (refine (ansE_0 HO.out HA.out ?_ ?_ ?_ ?_).symm <;> omega)
    · have HA := Lib.hid ha
      clear ha
      go_enter Tryd.func56, Tryd.ntmps56
      go_wp2_with (first | (go_at_call 76; refine (odd_lit _ false _ HO.out).mono ?_; rintro e w' ⟨rfl, rfl⟩) | (go_at_call 77; refine (contOdd_lit _ offs true _ (HV.out.mono ((Below.refl _ _).alloc (Nat.le_refl _) _) fun _ _ h => h) HA.out).mono ?_; rintro e w' ⟨rfl, rfl⟩))
      go_ret
      exact ⟨ret_int (ansE_2 (.inr (.inl HA.out))).symm, (Below.refl _ _).alloc (Nat.le_refl _) _⟩
  · have HO := Lib.hid ho
    clear ho
    go_enter Tryd.func56, Tryd.ntmps56
    go_wp2_with (go_at_call 76; refine (odd_lit _ true _ HO.out).mono ?_; rintro e w' ⟨rfl, rfl⟩)
    go_ret
    exact ⟨ret_int (ansE_2 (.inl HO.out)).symm, (Below.refl _ _).alloc (Nat.le_refl _) _⟩
theorem odd_in (n : Int) : oddB n = !decide (-172800 ≤ n ∧ n ≤ 172800) := by
  unfold oddB; rw [Bool.eq_iff_iff]; simp
end Go.Proofs.YtlhidbbphngpcaaDoor
