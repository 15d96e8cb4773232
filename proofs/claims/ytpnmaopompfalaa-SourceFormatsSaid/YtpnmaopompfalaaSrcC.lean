/-
  What plain and signs answer (the parts of a format).
-/
import Derived.Test.YtpnmaopompfalaaSrcB
namespace Go.Proofs.Ytpnmaopompfalaa
set_option linter.unusedVariables false
set_option linter.unusedSimpArgs false
open Go.ChangeShapes Go.WideShapes Go.ChangeAt Go.RowKit

def sgB (c : Int) : Bool := letB c || digB c || decide (c = 43) || decide (c = 45)
set_option maxRecDepth 100000 in
theorem plain1_any (c : Int) (w : World) :
    Calls Try.prog 110 #[.int .u8 c] w fun e w' => e = .returned (.bool (!sgB c)) ∧ w = w' := by
  obtain ⟨r, hr⟩ : ∃ r, r = !sgB c := ⟨_, rfl⟩
  rw [← hr]
  unfold sgB at hr
  cases hl : letB c <;> cases hd : digB c <;> rw [hl, hd] at hr <;> (
    have HL := Lib.hid hl
    have HD := Lib.hid hd
    have HR := Lib.hid hr
    clear hl hd hr
    go_enter Try.func110, Try.ntmps110
    go_wp2_with (first
      | (go_at_call 55; refine (letter_lit _ _ _ HL.out).mono ?_; rintro e w' ⟨rfl, rfl⟩)
      | (go_at_call 62; refine (digit_lit _ _ _ HD.out).mono ?_; rintro e w' ⟨rfl, rfl⟩))
    all_goals (go_ret; exact ⟨ret_bool (by go_light; rw [HR.out]; first | (simp [*]; done) | (simp_all; done) | (by_cases h45 : c = 45 <;> simp_all; done) | (by_cases h43 : c = 43 <;> by_cases h45 : c = 45 <;> simp_all; done) | (simp [*]; omega)), rfl⟩))
set_option maxRecDepth 100000 in
theorem signs1_any (c : Int) (w : World) :
    Calls Try.prog 111 #[.int .u8 c] w fun e w' => e = .returned (.bool (sgB c)) ∧ w = w' := by
  obtain ⟨r, hr⟩ : ∃ r, r = sgB c := ⟨_, rfl⟩
  rw [← hr]
  unfold sgB at hr
  cases hl : letB c <;> cases hd : digB c <;> rw [hl, hd] at hr <;> (
    have HL := Lib.hid hl
    have HD := Lib.hid hd
    have HR := Lib.hid hr
    clear hl hd hr
    go_enter Try.func111, Try.ntmps111
    go_wp2_with (first
      | (go_at_call 57; refine (isletter_lit _ _ _ HL.out).mono ?_; rintro e w' ⟨rfl, rfl⟩)
      | (go_at_call 65; refine (isdigit_lit _ _ _ HD.out).mono ?_; rintro e w' ⟨rfl, rfl⟩))
    all_goals (go_ret; exact ⟨ret_bool (by go_light; rw [HR.out]; first | (simp [*]; done) | (simp_all; done) | (by_cases h45 : c = 45 <;> simp_all; done) | (by_cases h43 : c = 43 <;> by_cases h45 : c = 45 <;> simp_all; done) | (simp [*]; omega)), rfl⟩))
/-- all bytes are signs. -/
def sgS (s : ByteArray) : Bool := (bl s).all sgB
def plS (s : ByteArray) : Bool := decide (0 < (s.size : Int)) && sgS s
theorem plain_any (s : ByteArray) (w : World) (hs : s.size ≤ maxLen) :
    Calls Try.prog 86 #[.string s] w fun e w' => e = .returned (.bool (plS s)) ∧ Below w.heap.size w w' := by
  have hs' := maxLen_eq _ hs
  obtain ⟨r, hr⟩ : ∃ r, r = plS s := ⟨_, rfl⟩
  rw [← hr]
  unfold plS sgS at hr
  by_cases h0 : s.size = 0
  · have hf : r = false := by rw [hr, decide_eq_false (by omega)]; rfl
    subst hf
    obtain rfl : s = ByteArray.empty := ByteArray.ext (Array.eq_empty_of_size_eq_zero h0)
    clear hr hs hs' h0
    go_enter Try.func86, Try.ntmps86
    go_wp2
    go_ret
    exact ⟨rfl, Below.refl _ _⟩
  · have hne : ¬ s = ByteArray.empty := fun e => h0 (by rw [e]; rfl)
    have hnl : ¬ s.toList = [] := fun e => hne ((toList_nil_iff_emptyBytes s).1 e)
    have hie : s.toList.isEmpty = false := by cases hl : s.toList with
      | nil => exact absurd hl hnl
      | cons a l => rfl
    have hf : r = !((bl s).any fun c => !sgB c) := by rw [hr, decide_eq_true (by omega), any_not]; simp
    have HF := Lib.hid hf
    have hcv := fun (w : World) => Lib.run_convert_string_bytes (P := Try.prog) w 9 66 5 s Try.underlying9 Try.underlying66 Try.underlying5
    have HS := Lib.hid (slAt_bytes w 5 s hs)
    clear hr hs hf
    go_enter Try.func86, Try.ntmps86
    go_wp2_with fail
    refine (contByte_any (fun c => !sgB c) 110 _ _ _ HS.out (enters_of Try.func110 (by kernel_rfl) rfl) plain1_any).mono ?_; rintro e w' ⟨rfl, rfl⟩
    go_wp2
    go_ret
    exact ⟨ret_bool HF.out.symm, Joins.below_bytesWorld _ _ _ _ (Nat.le_refl _)⟩
theorem signs_any (s : ByteArray) (w : World) (hs : s.size ≤ maxLen) :
    Calls Try.prog 87 #[.string s] w fun e w' => e = .returned (.bool (sgS s)) ∧ w = w' := by
  have HS := Lib.hid hs
  clear hs
  go_enter Try.func87, Try.ntmps87
  go_wp2_with fail
  refine (allof_any sgB 111 _ _ HS.out (enters_of Try.func111 (by kernel_rfl) rfl) signs1_any).mono ?_; rintro e w' ⟨rfl, rfl⟩
  go_wp2
  go_ret
  exact ⟨rfl, rfl⟩
end Go.Proofs.Ytpnmaopompfalaa
