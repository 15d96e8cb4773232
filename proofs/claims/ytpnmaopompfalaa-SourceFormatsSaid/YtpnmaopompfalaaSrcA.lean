/-
  What the functions on letters and names answer.
-/
import Derived.Test.YtpnmaopompfalaaTreeA
import Derived.Lib.ConvBytes
import Derived.Lib.SmallJoins
namespace Go.Proofs.Ytpnmaopompfalaa
set_option linter.unusedVariables false
set_option linter.unusedSimpArgs false
open Go.ChangeShapes Go.WideShapes Go.ChangeAt Go.RowKit

def letB (c : Int) : Bool := (decide (97 ≤ c) && decide (c ≤ 122)) || (decide (65 ≤ c) && decide (c ≤ 90))
def digB (c : Int) : Bool := decide (48 ≤ c) && decide (c ≤ 57)
theorem letter_any (c : Int) (w : World) :
    Calls Try.prog 55 #[.int .u8 c] w fun e w' => e = .returned (.bool (letB c)) ∧ w = w' := by
  obtain ⟨r, hr⟩ : ∃ r, r = letB c := ⟨_, rfl⟩
  rw [← hr]
  have H := Lib.hid hr
  clear hr
  go_enter Try.func55, Try.ntmps55
  go_wp2
  all_goals (go_ret; exact ⟨ret_bool (by go_light; rw [H.out]; unfold letB; first | (simp [*]; done) | (simp [*]; omega)), rfl⟩)
theorem isletter_any (c : Int) (w : World) :
    Calls Try.prog 57 #[.int .u8 c] w fun e w' => e = .returned (.bool (letB c)) ∧ w = w' := by
  obtain ⟨r, hr⟩ : ∃ r, r = letB c := ⟨_, rfl⟩
  rw [← hr]
  have H := Lib.hid hr
  clear hr
  go_enter Try.func57, Try.ntmps57
  go_wp2
  all_goals (go_ret; exact ⟨ret_bool (by go_light; rw [H.out]; unfold letB; first | (simp [*]; done) | (simp [*]; omega)), rfl⟩)
theorem letters1_any (c : Int) (w : World) :
    Calls Try.prog 54 #[.int .u8 c] w fun e w' => e = .returned (.bool (!letB c)) ∧ w = w' := by
  go_enter Try.func54, Try.ntmps54
  go_wp2_with (go_at_call 55; refine (letter_any _ _).mono ?_; rintro e w' ⟨rfl, rfl⟩)
  go_ret
  exact ⟨rfl, rfl⟩
def RByte (cs : List Value) (x : Int) : Prop := cs = [.int .u8 x]
/-- a string's bytes. -/
def bl (s : ByteArray) : List Int := s.data.toList.map fun b => (b.toNat : Int)
theorem bl_len (s : ByteArray) : (bl s).length = s.size := by simp [bl]
theorem slAt_bytes (w : World) (e : TypeId) (s : ByteArray) (h : s.size ≤ maxLen) : SlAt (Lib.bytesWorld w e s) 1 RByte (.slice (some ⟨w.heap.size, 0, none⟩) s.size (grownCap w s.size 0 e)) (bl s) := by
  by_cases h0 : s.size = 0
  · left
    refine ⟨_, _, by rw [h0], ?_⟩
    have := bl_len s
    rw [h0] at this
    exact List.length_eq_zero_iff.1 this
  · right
    refine ⟨w.heap.size, 0, _, by rw [bl_len], by rw [bl_len]; omega, by rw [bl_len]; exact grownCap_ge _ _ _ _, grownCap_le_maxLen _ _ _ _ h, by rw [Lib.bytesWorld_size]; omega, fun i hi => ?_⟩
    rw [bl_len] at hi
    refine ⟨[.int .u8 ((bl s)[i]'(by rw [bl_len]; exact hi))], rfl, rfl, fun j hj => ?_⟩
    obtain rfl : j = 0 := by omega
    have := Lib.bytesWorld_cell w e s i hi
    rw [show 0 + i * 1 + 0 = i by omega, this]
    simp [bl, List.getD, hi]
/-- the cell of element i. -/
theorem byteCell {w : World} {b off : Nat} {xs : List Int} (h4 : ∀ (i : Nat) (h : i < xs.length), ∃ cs : List Value, cs.length = 1 ∧ RByte cs xs[i] ∧ ∀ j, j < 1 → w.cell? ⟨b, off + i * 1 + j, none⟩ = cs[j]?) (i : Nat) (h : i < xs.length) :
    w.cell? ⟨b, off + i, none⟩ = some (.int .u8 xs[i]) ∧ True := by
  obtain ⟨cs, _, rfl, hc⟩ := h4 i h
  have := hc 0 (by omega)
  rw [Nat.mul_one, Nat.add_zero] at this
  exact ⟨this, trivial⟩
set_option maxHeartbeats 400000 in
set_option maxRecDepth 100000 in
theorem idxByte_any (p : Int → Bool) (F : Nat) (v : Value) (xs : List Int) (w : World) (hv : SlAt w 1 RByte v xs) (eg : ∀ args w, (callFunc F args).run Try.prog w = .ok (.enter F args) w) (hF : ∀ (x : Int) (w : World), Calls Try.prog F #[.int .u8 x] w fun e w' => e = .returned (.bool (p x)) ∧ w = w') :
    Calls Try.prog 102 #[v, .func (.func F) #[] #[]] w fun e w' => e = .returned (.int .i64 (fidx p xs)) ∧ w = w' := by
  have HF := Lib.hid hF
  clear hF
  rcases hv with ⟨a, cap, rfl, rfl⟩ | ⟨b, off, cap, rfl, h0, h1, h2, h3, h4⟩
  · go_enter Try.func102, Try.ntmps102
    go_wp2
    refine wp_loop_rounds 1 ?_
    rw [rounds_succ]
    go_wp2
    go_ret
    exact ⟨rfl, rfl⟩
  · have H4 := Lib.hid (byteCell h4)
    have h5 : xs.length ≤ 9223372036854775807 := by unfold maxLen at h2; omega
    clear h4 h2
    go_enter Try.func102, Try.ntmps102
    go_wp2
    go_loop [8] (fun t => ∃ k : Nat, k ≤ xs.length ∧ t = .int .i64 k ∧ Hid (∀ i (hi : i < xs.length), i < k → p xs[i] = false)) (fun t => (xs.length - intOf t).toNat)
    case atStart => exact ⟨0, by omega, rfl, fun i _ h => by omega⟩
    case round =>
      obtain ⟨k, hk, rfl, hn⟩ := hrel
      by_cases hlt : k < xs.length
      · have hc := (H4.out k hlt).1
        by_cases hp : p xs[k] = true
        · have hfin := Lib.hid (fidx_at p xs k hlt (fun i hi => hn.out i (by omega) hi) hp)
          generalize xs[k] = x at hc hp
          go_wp2_with fail
          refine (HF.out _ _).mono ?_; rintro e w' ⟨rfl, rfl⟩
          go_wp2
          go_ret
          exact ⟨ret_int hfin.out.symm, rfl⟩
        · have hp' : p xs[k] = false := by simpa using hp
          clear hp
          have hn' : Hid (∀ i (hi : i < xs.length), i < k + 1 → p xs[i] = false) := fun i hi h => by
            by_cases e : i = k
            · subst e; exact hp'
            · exact hn.out i hi (by omega)
          generalize xs[k] = x at hc hp'
          go_wp2_with fail
          refine (HF.out _ _).mono ?_; rintro e w' ⟨rfl, rfl⟩
          go_wp2
          go_round
          case rel => exact ⟨k + 1, by omega, by go_num, hn'⟩
          case measure => simp [intOf]; omega
      · have hfin := Lib.hid (fidx_none p xs (fun i hi => hn.out i hi (by omega)))
        go_wp2
        go_ret
        exact ⟨ret_int hfin.out.symm, rfl⟩
theorem contByte_any (p : Int → Bool) (F : Nat) (v : Value) (xs : List Int) (w : World) (hv : SlAt w 1 RByte v xs) (eg : ∀ args w, (callFunc F args).run Try.prog w = .ok (.enter F args) w) (hF : ∀ (x : Int) (w : World), Calls Try.prog F #[.int .u8 x] w fun e w' => e = .returned (.bool (p x)) ∧ w = w') :
    Calls Try.prog 53 #[v, .func (.func F) #[] #[]] w fun e w' => e = .returned (.bool (xs.any p)) ∧ w = w' := by
  have HI := Lib.hid (idxByte_any p F v xs w hv eg hF)
  have HA := Lib.hid (fidx_any p xs)
  clear hF eg hv
  go_enter Try.func53, Try.ntmps53
  go_wp2_with fail
  refine HI.out.mono ?_; rintro e w' ⟨rfl, rfl⟩
  go_wp2
  go_ret
  exact ⟨ret_bool HA.out, rfl⟩
set_option maxRecDepth 100000 in
theorem allof_any (p : Int → Bool) (F : Nat) (s : ByteArray) (w : World) (hs : s.size ≤ maxLen) (eg : ∀ args w, (callFunc F args).run Try.prog w = .ok (.enter F args) w) (hF : ∀ (x : Int) (w : World), Calls Try.prog F #[.int .u8 x] w fun e w' => e = .returned (.bool (p x)) ∧ w = w') :
    Calls Try.prog 56 #[.string s, .func (.func F) #[] #[]] w fun e w' => e = .returned (.bool ((bl s).all p)) ∧ w = w' := by
  have HF := Lib.hid hF
  have hs' := maxLen_eq _ hs
  have hb := bl_len s
  have HG : Hid (∀ (k : Nat) (h : k < s.size), (bl s)[k]'(by rw [bl_len s]; exact h) = ((s[k]).toNat : Int)) := fun k h => by simp [bl]; rfl
  have HB := Lib.hid hb
  clear hF hb hs
  go_enter Try.func56, Try.ntmps56
  go_wp2
  go_loop [5] (fun t => ∃ k : Nat, k ≤ s.size ∧ t = .int .i64 k ∧ Hid (∀ i (hi : i < s.size), i < k → p ((s[i]).toNat : Int) = true)) (fun t => (s.size - intOf t).toNat)
  case atStart => exact ⟨0, by omega, rfl, fun i _ h => by omega⟩
  case round =>
    obtain ⟨k, hk, rfl, hn⟩ := hrel
    by_cases hlt : k < s.size
    · have hlt' : (k : Int) < (s.size : Int) := by omega
      by_cases hp : p ((s[k]).toNat : Int) = true
      · have hn' : Hid (∀ i (hi : i < s.size), i < k + 1 → p ((s[i]).toNat : Int) = true) := fun i hi h => by
          by_cases e : i = k
          · subst e; exact hp
          · exact hn.out i hi (by omega)
        go_wp2_with fail
        refine (HF.out _ _).mono ?_; rintro e w' ⟨rfl, rfl⟩
        go_wp2
        go_round
        case rel => exact ⟨k + 1, by omega, by go_num, hn'⟩
        case measure => simp [intOf]; omega
      · have hp' : p ((s[k]).toNat : Int) = false := by simpa using hp
        have hX : Hid ((bl s).all p = false) := by
          show (bl s).all p = false
          rw [List.all_eq_false]
          exact ⟨_, List.getElem_mem (by rw [HB.out]; exact hlt), by rw [HG.out k hlt, hp']; simp⟩
        clear hp
        go_wp2_with fail
        refine (HF.out _ _).mono ?_; rintro e w' ⟨rfl, rfl⟩
        go_wp2
        go_ret
        exact ⟨ret_bool hX.out.symm, rfl⟩
    · have hX : Hid ((bl s).all p = true) := by
        show (bl s).all p = true
        rw [List.all_eq_true]
        intro x hx
        obtain ⟨i, hi, rfl⟩ := List.mem_iff_getElem.1 hx
        have hi' : i < s.size := by rw [HB.out] at hi; exact hi
        rw [HG.out i hi']
        exact hn.out i hi' (by omega)
      go_wp2
      go_ret
      exact ⟨ret_bool hX.out.symm, rfl⟩
def letsB (s : ByteArray) : Bool := decide ((s.size : Int) ≤ 6) && (bl s).all letB
theorem any_not (p : Int → Bool) (l : List Int) : (l.any fun c => !p c) = !l.all p := by
  induction l with
  | nil => rfl
  | cons x l ih => simp only [List.any_cons, List.all_cons, ih]; cases p x <;> rfl
set_option maxRecDepth 100000 in
theorem letters_any (s : ByteArray) (w : World) (hs : s.size ≤ maxLen) :
    Calls Try.prog 18 #[.string s] w fun e w' => e = .returned (.bool (letsB s)) ∧ Below w.heap.size w w' := by
  have hs' := maxLen_eq _ hs
  by_cases h6 : s.size ≤ 6
  · have h6' : (s.size : Int) ≤ 6 := by omega
    have HR : Hid (letsB s = !((bl s).any fun c => !letB c)) := by
      show letsB s = _
      unfold letsB; rw [any_not, decide_eq_true h6']; simp
    have hcv := fun (w : World) => Lib.run_convert_string_bytes (P := Try.prog) w 9 66 5 s Try.underlying9 Try.underlying66 Try.underlying5
    have HS := Lib.hid (slAt_bytes w 5 s hs)
    clear hs
    go_enter Try.func18, Try.ntmps18
    go_wp2_with fail
    refine (contByte_any (fun c => !letB c) 54 _ _ _ HS.out (enters_of Try.func54 (by kernel_rfl) rfl) letters1_any).mono ?_; rintro e w' ⟨rfl, rfl⟩
    go_wp2
    go_ret
    exact ⟨ret_bool HR.out.symm, Joins.below_bytesWorld _ _ _ _ (Nat.le_refl _)⟩
  · have h6' : 6 < (s.size : Int) := by omega
    have HR : Hid (letsB s = false) := by
      show letsB s = false
      unfold letsB; rw [decide_eq_false (by omega)]; simp
    clear hs h6
    go_enter Try.func18, Try.ntmps18
    go_wp2
    go_ret
    exact ⟨ret_bool HR.out.symm, Below.refl _ _⟩
theorem lettersmay_any (s : ByteArray) (w : World) (hs : s.size ≤ maxLen) :
    Calls Try.prog 19 #[.string s] w fun e w' => e = .returned (.bool (letsB s)) ∧ w = w' := by
  have hs' := maxLen_eq _ hs
  by_cases h6 : s.size ≤ 6
  · have h6' : (s.size : Int) ≤ 6 := by omega
    have HR : Hid (letsB s = (bl s).all letB) := by
      show letsB s = _
      unfold letsB; rw [decide_eq_true h6']; simp
    have HS := Lib.hid hs
    clear hs
    go_enter Try.func19, Try.ntmps19
    go_wp2_with fail
    refine (allof_any letB 57 s _ HS.out (enters_of Try.func57 (by kernel_rfl) rfl) isletter_any).mono ?_; rintro e w' ⟨rfl, rfl⟩
    go_wp2
    go_ret
    exact ⟨ret_bool HR.out.symm, rfl⟩
  · have h6' : 6 < (s.size : Int) := by omega
    have HR : Hid (letsB s = false) := by
      show letsB s = false
      unfold letsB; rw [decide_eq_false (by omega)]; simp
    clear hs h6
    go_enter Try.func19, Try.ntmps19
    go_wp2
    go_ret
    exact ⟨ret_bool HR.out.symm, rfl⟩
theorem walkSourceLetters (s : ByteArray) (w : World) (hs : s.size ≤ maxLen) :
    Calls Try.prog 3 #[.string s] w fun e w' => e = .returned (.bool true) ∧ Below w.heap.size w w' := by
  have HS := Lib.hid hs
  clear hs
  go_enter Try.func3, Try.ntmps3
  go_wp2_with fail
  refine (letters_any s _ HS.out).mono ?_; rintro e w1 ⟨rfl, hb1⟩
  go_wp2_with fail
  refine (lettersmay_any s _ HS.out).mono ?_; rintro e w2 ⟨rfl, rfl⟩
  go_wp2
  go_ret
  exact ⟨ret_bool (by simp), hb1⟩
end Go.Proofs.Ytpnmaopompfalaa
