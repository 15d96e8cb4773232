/-
  What the functions on names answer.
-/
import Derived.Test.YtpnmaopompfalaaSrcA
import Derived.Test.YtpnmaopompfalaaTreeC
import Derived.Lib.Bytealg
import Derived.Laws.Closers25b
namespace Go.Proofs.Ytpnmaopompfalaa
set_option linter.unusedVariables false
set_option linter.unusedSimpArgs false
open Go.ChangeShapes Go.WideShapes Go.ChangeAt Go.RowKit

theorem letter_lit (c : Int) (r : Bool) (w : World) (h : letB c = r) :
    Calls Try.prog 55 #[.int .u8 c] w fun e w' => e = .returned (.bool r) ∧ w = w' := h ▸ letter_any c w
theorem isletter_lit (c : Int) (r : Bool) (w : World) (h : letB c = r) :
    Calls Try.prog 57 #[.int .u8 c] w fun e w' => e = .returned (.bool r) ∧ w = w' := h ▸ isletter_any c w
theorem digit_lit (c : Int) (r : Bool) (w : World) (hr : digB c = r) :
    Calls Try.prog 62 #[.int .u8 c] w fun e w' => e = .returned (.bool r) ∧ w = w' := by
  have H := Lib.hid hr.symm
  clear hr
  go_enter Try.func62, Try.ntmps62
  go_wp2
  all_goals (go_ret; exact ⟨ret_bool (by go_light; rw [H.out]; unfold digB; first | (simp [*]; done) | (simp [*]; omega)), rfl⟩)
theorem isdigit_lit (c : Int) (r : Bool) (w : World) (hr : digB c = r) :
    Calls Try.prog 65 #[.int .u8 c] w fun e w' => e = .returned (.bool r) ∧ w = w' := by
  have H := Lib.hid hr.symm
  clear hr
  go_enter Try.func65, Try.ntmps65
  go_wp2
  all_goals (go_ret; exact ⟨ret_bool (by go_light; rw [H.out]; unfold digB; first | (simp [*]; done) | (simp [*]; omega)), rfl⟩)
set_option maxRecDepth 100000 in
theorem slIndexByte_any (s : ByteArray) (c : Int) (w : World) :
    Calls Try.prog 104 #[.string s, .int .u8 c] w fun e w' => e = .returned (.int .i64 (Lib.indexByte s.data.toList c.toNat.toUInt8)) ∧ w = w' := by
  go_enter Try.func104, Try.ntmps104
  go_wp2
  rw [run_callFunc_extern Try.func112 (by kernel_rfl) (by kernel_rfl) (by kernel_rfl) (e := Extern.BytealgIndexByte.indexByte) (by kernel_rfl), Lib.run_indexByteString]
  simp only [Result.andThen]
  rw [Oper.upon_value]
  go_wp2
  go_ret
  exact ⟨rfl, rfl⟩
set_option maxRecDepth 100000 in
theorem sIndexByte_lit (s : ByteArray) (c : Int) (i : Int) (w : World) (h : Lib.indexByte s.data.toList c.toNat.toUInt8 = i) :
    Calls Try.prog 63 #[.string s, .int .u8 c] w fun e w' => e = .returned (.int .i64 i) ∧ w = w' := by
  subst h
  go_enter Try.func63, Try.ntmps63
  go_wp2_with (go_at_call 104; refine (slIndexByte_any _ _ _).mono ?_; rintro e w' ⟨rfl, rfl⟩)
  go_ret
  exact ⟨rfl, rfl⟩
def sgI (c : Int) : Int := Lib.indexByte [95, 47, 43, 45] c.toNat.toUInt8
def nm1 (c : Int) : Bool := !letB c && !digB c && decide (sgI c < 0)
def nm2 (c : Int) : Bool := letB c || digB c || decide (c = 95) || decide (c = 47) || decide (c = 43) || decide (c = 45)
set_option maxRecDepth 100000 in
theorem name1_any (c : Int) (w : World) :
    Calls Try.prog 61 #[.int .u8 c] w fun e w' => e = .returned (.bool (nm1 c)) ∧ w = w' := by
  obtain ⟨r, hr⟩ : ∃ r, r = nm1 c := ⟨_, rfl⟩
  rw [← hr]
  unfold nm1 at hr
  obtain ⟨i, hi⟩ : ∃ i, sgI c = i := ⟨_, rfl⟩
  rw [hi] at hr
  cases hl : letB c <;> cases hd : digB c <;> rw [hl, hd] at hr <;> (
    have HL := Lib.hid hl
    have HD := Lib.hid hd
    have HI := Lib.hid hi
    have HR := Lib.hid hr
    clear hl hd hi hr
    go_enter Try.func61, Try.ntmps61
    go_wp2_with (first
      | (go_at_call 55; refine (letter_lit _ _ _ HL.out).mono ?_; rintro e w' ⟨rfl, rfl⟩)
      | (go_at_call 62; refine (digit_lit _ _ _ HD.out).mono ?_; rintro e w' ⟨rfl, rfl⟩)
      | (go_at_call 63; refine (sIndexByte_lit _ _ i _ (by exact HI.out)).mono ?_; rintro e w' ⟨rfl, rfl⟩))
    all_goals (go_ret; exact ⟨ret_bool (by go_light; rw [HR.out]; first | (simp [*]; done) | (simp [*]; omega)), rfl⟩))
set_option maxRecDepth 100000 in
theorem namemay1_any (c : Int) (w : World) :
    Calls Try.prog 64 #[.int .u8 c] w fun e w' => e = .returned (.bool (nm2 c)) ∧ w = w' := by
  obtain ⟨r, hr⟩ : ∃ r, r = nm2 c := ⟨_, rfl⟩
  rw [← hr]
  unfold nm2 at hr
  cases hl : letB c <;> cases hd : digB c <;> rw [hl, hd] at hr <;> (
    have HL := Lib.hid hl
    have HD := Lib.hid hd
    have HR := Lib.hid hr
    clear hl hd hr
    go_enter Try.func64, Try.ntmps64
    go_wp2_with (first
      | (go_at_call 57; refine (isletter_lit _ _ _ HL.out).mono ?_; rintro e w' ⟨rfl, rfl⟩)
      | (go_at_call 65; refine (isdigit_lit _ _ _ HD.out).mono ?_; rintro e w' ⟨rfl, rfl⟩))
    all_goals (go_ret; exact ⟨ret_bool (by go_light; rw [HR.out]; first | (simp [*]; done) | (simp_all; done) | (by_cases h45 : c = 45 <;> simp_all; done) | (simp [*]; omega)), rfl⟩))
theorem nm_not (b : UInt8) : nm1 ((b.toNat : Nat) : Int) = !nm2 ((b.toNat : Nat) : Int) := by
  have h : ∀ n : Nat, n < 256 → nm1 (n : Int) = !nm2 (n : Int) := by decide +kernel
  exact h _ b.toNat_lt
theorem nm_any (s : ByteArray) : (bl s).any nm1 = !(bl s).all nm2 := by
  unfold bl
  induction s.data.toList with
  | nil => rfl
  | cons x l ih => simp only [List.map_cons, List.any_cons, List.all_cons, ih, nm_not]; cases nm2 (x.toNat : Int) <;> rfl
def firstB (s : ByteArray) : Int := (bl s).getD 0 0
def nameS (s : ByteArray) : Bool := decide (1 ≤ (s.size : Int) ∧ (s.size : Int) ≤ 20) && letB (firstB s) && (bl s).all nm2
theorem first_at (s : ByteArray) (h : 0 < s.size) : ((s[0]).toNat : Int) = firstB s := by
  unfold firstB
  have h' : 0 < (bl s).length := by rw [bl_len]; exact h
  rw [List.getD_eq_getElem?_getD, List.getElem?_eq_getElem h']
  simp [bl]; rfl
set_option maxRecDepth 100000 in
theorem name_lit (s : ByteArray) (w : World) (hs : s.size ≤ maxLen) :
    Calls Try.prog 22 #[.string s] w fun e w' => e = .returned (.bool (nameS s)) ∧ Below w.heap.size w w' := by
  have hs' := maxLen_eq _ hs
  obtain ⟨r, hr⟩ : ∃ r, r = nameS s := ⟨_, rfl⟩
  rw [← hr]
  unfold nameS at hr
  by_cases h0 : s.size = 0
  · have hf : r = false := by rw [hr, decide_eq_false (by omega)]; rfl
    subst hf
    obtain rfl : s = ByteArray.empty := ByteArray.ext (Array.eq_empty_of_size_eq_zero h0)
    clear hr hs hs' h0
    go_enter Try.func22, Try.ntmps22
    go_wp2
    go_ret
    exact ⟨rfl, Below.refl _ _⟩
  · have hne : ¬ s = ByteArray.empty := fun e => h0 (by rw [e]; rfl)
    have hnl : ¬ s.toList = [] := fun e => hne ((toList_nil_iff_emptyBytes s).1 e)
    have hie : s.toList.isEmpty = false := by cases hl : s.toList with
      | nil => exact absurd hl hnl
      | cons a l => rfl
    by_cases h20 : s.size ≤ 20
    · cases hl : letB (firstB s)
      · have hf : r = false := by rw [hr, hl]; simp
        subst hf
        have hx : ((s[0]'(by omega)).toNat : Int) = firstB s := first_at s (by omega)
        rw [← hx] at hl
        have HL := Lib.hid hl
        have h20' : (s.size : Int) ≤ 20 := by omega
        have h0' : 0 < (s.size : Int) := by omega
        clear hr hs hl hx
        go_enter Try.func22, Try.ntmps22
        go_wp2_with (go_at_call 55; refine (letter_lit _ _ _ HL.out).mono ?_; rintro e w' ⟨rfl, rfl⟩)
        go_ret
        exact ⟨rfl, Below.refl _ _⟩
      · have hf : r = !((bl s).any nm1) := by rw [hr, hl, decide_eq_true (by omega), nm_any]; simp
        have hx : ((s[0]'(by omega)).toNat : Int) = firstB s := first_at s (by omega)
        rw [← hx] at hl
        have HL := Lib.hid hl
        have HF := Lib.hid hf
        have h20' : (s.size : Int) ≤ 20 := by omega
        have h0' : 0 < (s.size : Int) := by omega
        have hcv := fun (w : World) => Lib.run_convert_string_bytes (P := Try.prog) w 9 66 5 s Try.underlying9 Try.underlying66 Try.underlying5
        have HS := Lib.hid (slAt_bytes w 5 s hs)
        clear hr hs hl hx hf
        go_enter Try.func22, Try.ntmps22
        go_wp2_with (first
          | (go_at_call 55; refine (letter_lit _ _ _ HL.out).mono ?_; rintro e w' ⟨rfl, rfl⟩)
          | (refine (contByte_any nm1 61 _ _ _ HS.out (enters_of Try.func61 (by kernel_rfl) rfl) name1_any).mono ?_; rintro e w' ⟨rfl, rfl⟩))
        go_ret
        exact ⟨ret_bool HF.out.symm, Joins.below_bytesWorld _ _ _ _ (Nat.le_refl _)⟩
    · have hf : r = false := by rw [hr, decide_eq_false (by omega)]; rfl
      subst hf
      have h20' : 20 < (s.size : Int) := by omega
      clear hr hs
      go_enter Try.func22, Try.ntmps22
      go_wp2
      go_ret
      exact ⟨rfl, Below.refl _ _⟩
set_option maxRecDepth 100000 in
theorem namemay_lit (s : ByteArray) (w : World) (hs : s.size ≤ maxLen) :
    Calls Try.prog 23 #[.string s] w fun e w' => e = .returned (.bool (nameS s)) ∧ w = w' := by
  have hs' := maxLen_eq _ hs
  obtain ⟨r, hr⟩ : ∃ r, r = nameS s := ⟨_, rfl⟩
  rw [← hr]
  unfold nameS at hr
  by_cases hin : 1 ≤ (s.size : Int) ∧ (s.size : Int) ≤ 20
  · rw [decide_eq_true hin] at hr
    have h0 : 0 < s.size := by omega
    have D := Lib.hid (show decide ((1 : Int) ≤ s.size ∧ (s.size : Int) ≤ 20) = true from decide_eq_true hin)
    obtain ⟨l, hl⟩ : ∃ l, letB (firstB s) = l := ⟨_, rfl⟩
    rw [hl] at hr
    have hx : ((s[0]'h0).toNat : Int) = firstB s := first_at s h0
    rw [← hx] at hl
    have HL := Lib.hid hl
    have HS := Lib.hid hs
    clear hin hx hs hl
    cases l
    · have hf : r = false := by rw [hr]; simp
      subst hf
      clear hr
      go_enter Try.func23, Try.ntmps23
      go_wp2_with (first
        | (go_at_call 60; with_reducible refine (in_lit _ _ _ _ _ D.out).mono ?_; rintro e w' ⟨rfl, rfl⟩)
        | (go_at_call 57; refine (isletter_lit _ _ _ HL.out).mono ?_; rintro e w' ⟨rfl, rfl⟩))
      go_ret
      exact ⟨rfl, rfl⟩
    · have hf : r = (bl s).all nm2 := by rw [hr]; simp
      have HF := Lib.hid hf
      clear hr hf
      go_enter Try.func23, Try.ntmps23
      go_wp2_with (first
        | (go_at_call 60; with_reducible refine (in_lit _ _ _ _ _ D.out).mono ?_; rintro e w' ⟨rfl, rfl⟩)
        | (go_at_call 57; refine (isletter_lit _ _ _ HL.out).mono ?_; rintro e w' ⟨rfl, rfl⟩)
        | (refine (allof_any nm2 64 _ _ HS.out (enters_of Try.func64 (by kernel_rfl) rfl) namemay1_any).mono ?_; rintro e w' ⟨rfl, rfl⟩))
      go_ret
      exact ⟨ret_bool HF.out.symm, rfl⟩
  · have hf : r = false := by rw [hr, decide_eq_false hin]; rfl
    subst hf
    have D := Lib.hid (show decide ((1 : Int) ≤ s.size ∧ (s.size : Int) ≤ 20) = false from decide_eq_false hin)
    clear hr hs hin
    go_enter Try.func23, Try.ntmps23
    go_wp2_with (go_at_call 60; with_reducible refine (in_lit _ _ _ _ _ D.out).mono ?_; rintro e w' ⟨rfl, rfl⟩)
    go_ret
    exact ⟨rfl, rfl⟩
theorem walkSourceNames (s : ByteArray) (w : World) (hs : s.size ≤ maxLen) :
    Calls Try.prog 5 #[.string s] w fun e w' => e = .returned (.bool true) ∧ Below w.heap.size w w' := by
  have HS := Lib.hid hs
  clear hs
  go_enter Try.func5, Try.ntmps5
  go_wp2_with fail
  refine (name_lit s _ HS.out).mono ?_; rintro e w1 ⟨rfl, hb1⟩
  go_wp2_with fail
  refine (namemay_lit s _ HS.out).mono ?_; rintro e w2 ⟨rfl, rfl⟩
  go_wp2
  go_ret
  exact ⟨ret_bool (by simp), hb1⟩
end Go.Proofs.Ytpnmaopompfalaa
