/-
  What the functions on letters and names answer.
  What the functions on names answer.
  What plain and signs answer (the parts of a format).
-/
import Derived.Lib.ConvBytes
import Derived.Lib.SmallJoins
import Derived.Lib.Bytealg
import Derived.Laws.Closers25b
import Derived.Test.YtdpbedkppomffaaDoorTreeA
import Derived.Test.YtdpbedkppomffaaDoorTreeC
namespace Go.Proofs.YtdpbedkppomffaaDoor
set_option linter.unusedVariables false
set_option linter.unusedSimpArgs false
open Go.ChangeShapes Go.WideShapes Go.ChangeAt Go.RowKit

def letB (c : Int) : Bool := (decide (97 ≤ c) && decide (c ≤ 122)) || (decide (65 ≤ c) && decide (c ≤ 90))
def digB (c : Int) : Bool := decide (48 ≤ c) && decide (c ≤ 57)
theorem letter_any (c : Int) (w : World) :
    Calls Tryd.prog 51 #[.int .u8 c] w fun e w' => e = .returned (.bool (letB c)) ∧ w = w' := by
  obtain ⟨r, hr⟩ : ∃ r, r = letB c := ⟨_, rfl⟩
  rw [← hr]
  have H := Lib.hid hr
  clear hr
  go_enter Tryd.func51, Tryd.ntmps51
  go_wp2
  all_goals (go_ret; exact ⟨ret_bool (by go_light; rw [H.out]; unfold letB; first | (simp [*]; done) | (simp [*]; omega)), rfl⟩)
theorem isletter_any (c : Int) (w : World) :
    Calls Tryd.prog 65 #[.int .u8 c] w fun e w' => e = .returned (.bool (letB c)) ∧ w = w' := by
  obtain ⟨r, hr⟩ : ∃ r, r = letB c := ⟨_, rfl⟩
  rw [← hr]
  have H := Lib.hid hr
  clear hr
  go_enter Tryd.func65, Tryd.ntmps65
  go_wp2
  all_goals (go_ret; exact ⟨ret_bool (by go_light; rw [H.out]; unfold letB; first | (simp [*]; done) | (simp [*]; omega)), rfl⟩)
theorem letters1_any (c : Int) (w : World) :
    Calls Tryd.prog 92 #[.int .u8 c] w fun e w' => e = .returned (.bool (!letB c)) ∧ w = w' := by
  go_enter Tryd.func92, Tryd.ntmps92
  go_wp2_with (go_at_call 51; refine (letter_any _ _).mono ?_; rintro e w' ⟨rfl, rfl⟩)
  go_ret
  exact ⟨rfl, rfl⟩
def RByte (cs : List Value) (x : Int) : Prop := cs = [.int .u8 x]
/-- a string's bytes. -/
def bl (s : ByteArray) : List Int := s.data.toList.map fun b => (b.toNat : Int)
theorem bl_len (s : ByteArray) : (bl s).length = s.size := by simp [bl]
theorem slAt_bytes (w : World) (e : TypeId) (s : ByteArray) (h : s.size ≤ maxLen) : SlAt (Lib.bytesWorld w e s) 1 RByte (.slice (some ⟨w.heap.size, 0, none⟩) s.size (grownCap w s.size 0 e)) (bl s) := by
  by_cases h0 : s.size = 0
  · left
    refine ⟨_, _, by rw [h0], ?_⟩
    have := bl_len s
    rw [h0] at this
    exact List.length_eq_zero_iff.1 this
  · right
    refine ⟨w.heap.size, 0, _, by rw [bl_len], by rw [bl_len]; omega, by rw [bl_len]; exact grownCap_ge _ _ _ _, grownCap_le_maxLen _ _ _ _ h, by rw [Lib.bytesWorld_size]; omega, fun i hi => ?_⟩
    rw [bl_len] at hi
    refine ⟨[.int .u8 ((bl s)[i]'(by rw [bl_len]; exact hi))], rfl, rfl, fun j hj => ?_⟩
    obtain rfl : j = 0 := by omega
    have := Lib.bytesWorld_cell w e s i hi
    rw [show 0 + i * 1 + 0 = i by omega, this]
    simp [bl, List.getD, hi]
/-- the cell of element i. -/
theorem byteCell {w : World} {b off : Nat} {xs : List Int} (h4 : ∀ (i : Nat) (h : i < xs.length), ∃ cs : List Value, cs.length = 1 ∧ RByte cs xs[i] ∧ ∀ j, j < 1 → w.cell? ⟨b, off + i * 1 + j, none⟩ = cs[j]?) (i : Nat) (h : i < xs.length) :
    w.cell? ⟨b, off + i, none⟩ = some (.int .u8 xs[i]) ∧ True := by
  obtain ⟨cs, _, rfl, hc⟩ := h4 i h
  have := hc 0 (by omega)
  rw [Nat.mul_one, Nat.add_zero] at this
  exact ⟨this, trivial⟩
set_option maxHeartbeats 400000 in
set_option maxRecDepth 100000 in
theorem idxByte_any (p : Int → Bool) (F : Nat) (v : Value) (xs : List Int) (w : World) (hv : SlAt w 1 RByte v xs) (eg : ∀ args w, (callFunc F args).run Tryd.prog w = .ok (.enter F args) w) (hF : ∀ (x : Int) (w : World), Calls Tryd.prog F #[.int .u8 x] w fun e w' => e = .returned (.bool (p x)) ∧ w = w') :
    Calls Tryd.prog 96 #[v, .func (.func F) #[] #[]] w fun e w' => e = .returned (.int .i64 (fidx p xs)) ∧ w = w' := by
  have HF := Lib.hid hF
  clear hF
  rcases hv with ⟨a, cap, rfl, rfl⟩ | ⟨b, off, cap, rfl, h0, h1, h2, h3, h4⟩
  · go_enter Tryd.func96, Tryd.ntmps96
    go_wp2
    refine wp_loop_rounds 1 ?_
    rw [rounds_succ]
    go_wp2
    go_ret
    exact ⟨rfl, rfl⟩
  · have H4 := Lib.hid (byteCell h4)
    have h5 : xs.length ≤ 9223372036854775807 := by unfold maxLen at h2; omega
    clear h4 h2
    go_enter Tryd.func96, Tryd.ntmps96
    go_wp2
    go_loop [8] (fun t => ∃ k : Nat, k ≤ xs.length ∧ t = .int .i64 k ∧ Hid (∀ i (hi : i < xs.length), i < k → p xs[i] = false)) (fun t => (xs.length - intOf t).toNat)
    case atStart => exact ⟨0, by omega, rfl, fun i _ h => by omega⟩
    case round =>
      obtain ⟨k, hk, rfl, hn⟩ := hrel
      by_cases hlt : k < xs.length
      · have hc := (H4.out k hlt).1
        by_cases hp : p xs[k] = true
        · have hfin := Lib.hid (fidx_at p xs k hlt (fun i hi => hn.out i (by omega) hi) hp)
          generalize xs[k] = x at hc hp
          go_wp2_with fail
          refine (HF.out _ _).mono ?_; rintro e w' ⟨rfl, rfl⟩
          go_wp2
          go_ret
          exact ⟨ret_int hfin.out.symm, rfl⟩
        · have hp' : p xs[k] = false := by simpa using hp
          clear hp
          have hn' : Hid (∀ i (hi : i < xs.length), i < k + 1 → p xs[i] = false) := fun i hi h => by
            by_cases e : i = k
            · subst e; exact hp'
            · exact hn.out i hi (by omega)
          generalize xs[k] = x at hc hp'
          go_wp2_with fail
          refine (HF.out _ _).mono ?_; rintro e w' ⟨rfl, rfl⟩
          go_wp2
          go_round
          case rel => exact ⟨k + 1, by omega, by go_num, hn'⟩
          case measure => simp [intOf]; omega
      · have hfin := Lib.hid (fidx_none p xs (fun i hi => hn.out i hi (by omega)))
        go_wp2
        go_ret
        exact ⟨ret_int hfin.out.symm, rfl⟩
theorem contByte_any (p : Int → Bool) (F : Nat) (v : Value) (xs : List Int) (w : World) (hv : SlAt w 1 RByte v xs) (eg : ∀ args w, (callFunc F args).run Tryd.prog w = .ok (.enter F args) w) (hF : ∀ (x : Int) (w : World), Calls Tryd.prog F #[.int .u8 x] w fun e w' => e = .returned (.bool (p x)) ∧ w = w') :
    Calls Tryd.prog 52 #[v, .func (.func F) #[] #[]] w fun e w' => e = .returned (.bool (xs.any p)) ∧ w = w' := by
  have HI := Lib.hid (idxByte_any p F v xs w hv eg hF)
  have HA := Lib.hid (fidx_any p xs)
  clear hF eg hv
  go_enter Tryd.func52, Tryd.ntmps52
  go_wp2_with fail
  refine HI.out.mono ?_; rintro e w' ⟨rfl, rfl⟩
  go_wp2
  go_ret
  exact ⟨ret_bool HA.out, rfl⟩
set_option maxRecDepth 100000 in
theorem allof_any (p : Int → Bool) (F : Nat) (s : ByteArray) (w : World) (hs : s.size ≤ maxLen) (eg : ∀ args w, (callFunc F args).run Tryd.prog w = .ok (.enter F args) w) (hF : ∀ (x : Int) (w : World), Calls Tryd.prog F #[.int .u8 x] w fun e w' => e = .returned (.bool (p x)) ∧ w = w') :
    Calls Tryd.prog 66 #[.string s, .func (.func F) #[] #[]] w fun e w' => e = .returned (.bool ((bl s).all p)) ∧ w = w' := by
  have HF := Lib.hid hF
  have hs' := maxLen_eq _ hs
  have hb := bl_len s
  have HG : Hid (∀ (k : Nat) (h : k < s.size), (bl s)[k]'(by rw [bl_len s]; exact h) = ((s[k]).toNat : Int)) := fun k h => by simp [bl]; rfl
  have HB := Lib.hid hb
  clear hF hb hs
  go_enter Tryd.func66, Tryd.ntmps66
  go_wp2
  go_loop [5] (fun t => ∃ k : Nat, k ≤ s.size ∧ t = .int .i64 k ∧ Hid (∀ i (hi : i < s.size), i < k → p ((s[i]).toNat : Int) = true)) (fun t => (s.size - intOf t).toNat)
  case atStart => exact ⟨0, by omega, rfl, fun i _ h => by omega⟩
  case round =>
    obtain ⟨k, hk, rfl, hn⟩ := hrel
    by_cases hlt : k < s.size
    · have hlt' : (k : Int) < (s.size : Int) := by omega
      by_cases hp : p ((s[k]).toNat : Int) = true
      · have hn' : Hid (∀ i (hi : i < s.size), i < k + 1 → p ((s[i]).toNat : Int) = true) := fun i hi h => by
          by_cases e : i = k
          · subst e; exact hp
          · exact hn.out i hi (by omega)
        go_wp2_with fail
        refine (HF.out _ _).mono ?_; rintro e w' ⟨rfl, rfl⟩
        go_wp2
        go_round
        case rel => exact ⟨k + 1, by omega, by go_num, hn'⟩
        case measure => simp [intOf]; omega
      · have hp' : p ((s[k]).toNat : Int) = false := by simpa using hp
        have hX : Hid ((bl s).all p = false) := by
          show (bl s).all p = false
          rw [List.all_eq_false]
          exact ⟨_, List.getElem_mem (by rw [HB.out]; exact hlt), by rw [HG.out k hlt, hp']; simp⟩
        clear hp
        go_wp2_with fail
        refine (HF.out _ _).mono ?_; rintro e w' ⟨rfl, rfl⟩
        go_wp2
        go_ret
        exact ⟨ret_bool hX.out.symm, rfl⟩
    · have hX : Hid ((bl s).all p = true) := by
        show (bl s).all p = true
        rw [List.all_eq_true]
        intro x hx
        obtain ⟨i, hi, rfl⟩ := List.mem_iff_getElem.1 hx
        have hi' : i < s.size := by rw [HB.out] at hi; exact hi
        rw [HG.out i hi']
        exact hn.out i hi' (by omega)
      go_wp2
      go_ret
      exact ⟨ret_bool hX.out.symm, rfl⟩
def letsB (s : ByteArray) : Bool := decide ((s.size : Int) ≤ 6) && (bl s).all letB
theorem any_not (p : Int → Bool) (l : List Int) : (l.any fun c => !p c) = !l.all p := by
  induction l with
  | nil => rfl
  | cons x l ih => simp only [List.any_cons, List.all_cons, ih]; cases p x <;> rfl
set_option maxRecDepth 100000 in
theorem letters_any (s : ByteArray) (w : World) (hs : s.size ≤ maxLen) :
    Calls Tryd.prog 48 #[.string s] w fun e w' => e = .returned (.bool (letsB s)) ∧ Below w.heap.size w w' := by
  have hs' := maxLen_eq _ hs
  by_cases h6 : s.size ≤ 6
  · have h6' : (s.size : Int) ≤ 6 := by omega
    have HR : Hid (letsB s = !((bl s).any fun c => !letB c)) := by
      show letsB s = _
      unfold letsB; rw [any_not, decide_eq_true h6']; simp
    have hcv := fun (w : World) => Lib.run_convert_string_bytes (P := Tryd.prog) w 9 99 5 s Tryd.underlying9 Tryd.underlying99 Tryd.underlying5
    have HS := Lib.hid (slAt_bytes w 5 s hs)
    clear hs
    go_enter Tryd.func48, Tryd.ntmps48
    go_wp2_with fail
    refine (contByte_any (fun c => !letB c) 92 _ _ _ HS.out (enters_of Tryd.func92 (by kernel_rfl) rfl) letters1_any).mono ?_; rintro e w' ⟨rfl, rfl⟩
    go_wp2
    go_ret
    exact ⟨ret_bool HR.out.symm, Joins.below_bytesWorld _ _ _ _ (Nat.le_refl _)⟩
  · have h6' : 6 < (s.size : Int) := by omega
    have HR : Hid (letsB s = false) := by
      show letsB s = false
      unfold letsB; rw [decide_eq_false (by omega)]; simp
    clear hs h6
    go_enter Tryd.func48, Tryd.ntmps48
    go_wp2
    go_ret
    exact ⟨ret_bool HR.out.symm, Below.refl _ _⟩
theorem lettersmay_any (s : ByteArray) (w : World) (hs : s.size ≤ maxLen) :
    Calls Tryd.prog 60 #[.string s] w fun e w' => e = .returned (.bool (letsB s)) ∧ w = w' := by
  have hs' := maxLen_eq _ hs
  by_cases h6 : s.size ≤ 6
  · have h6' : (s.size : Int) ≤ 6 := by omega
    have HR : Hid (letsB s = (bl s).all letB) := by
      show letsB s = _
      unfold letsB; rw [decide_eq_true h6']; simp
    have HS := Lib.hid hs
    clear hs
    go_enter Tryd.func60, Tryd.ntmps60
    go_wp2_with fail
    refine (allof_any letB 65 s _ HS.out (enters_of Tryd.func65 (by kernel_rfl) rfl) isletter_any).mono ?_; rintro e w' ⟨rfl, rfl⟩
    go_wp2
    go_ret
    exact ⟨ret_bool HR.out.symm, rfl⟩
  · have h6' : 6 < (s.size : Int) := by omega
    have HR : Hid (letsB s = false) := by
      show letsB s = false
      unfold letsB; rw [decide_eq_false (by omega)]; simp
    clear hs h6
    go_enter Tryd.func60, Tryd.ntmps60
    go_wp2
    go_ret
    exact ⟨ret_bool HR.out.symm, rfl⟩
end Go.Proofs.YtdpbedkppomffaaDoor
namespace Go.Proofs.YtdpbedkppomffaaDoor
set_option linter.unusedVariables false
set_option linter.unusedSimpArgs false
open Go.ChangeShapes Go.WideShapes Go.ChangeAt Go.RowKit

theorem letter_lit (c : Int) (r : Bool) (w : World) (h : letB c = r) :
    Calls Tryd.prog 51 #[.int .u8 c] w fun e w' => e = .returned (.bool r) ∧ w = w' := h ▸ letter_any c w
theorem isletter_lit (c : Int) (r : Bool) (w : World) (h : letB c = r) :
    Calls Tryd.prog 65 #[.int .u8 c] w fun e w' => e = .returned (.bool r) ∧ w = w' := h ▸ isletter_any c w
theorem digit_lit (c : Int) (r : Bool) (w : World) (hr : digB c = r) :
    Calls Tryd.prog 54 #[.int .u8 c] w fun e w' => e = .returned (.bool r) ∧ w = w' := by
  have H := Lib.hid hr.symm
  clear hr
  go_enter Tryd.func54, Tryd.ntmps54
  go_wp2
  all_goals (go_ret; exact ⟨ret_bool (by go_light; rw [H.out]; unfold digB; first | (simp [*]; done) | (simp [*]; omega)), rfl⟩)
theorem isdigit_lit (c : Int) (r : Bool) (w : World) (hr : digB c = r) :
    Calls Tryd.prog 68 #[.int .u8 c] w fun e w' => e = .returned (.bool r) ∧ w = w' := by
  have H := Lib.hid hr.symm
  clear hr
  go_enter Tryd.func68, Tryd.ntmps68
  go_wp2
  all_goals (go_ret; exact ⟨ret_bool (by go_light; rw [H.out]; unfold digB; first | (simp [*]; done) | (simp [*]; omega)), rfl⟩)
set_option maxRecDepth 100000 in
theorem slIndexByte_any (s : ByteArray) (c : Int) (w : World) :
    Calls Tryd.prog 97 #[.string s, .int .u8 c] w fun e w' => e = .returned (.int .i64 (Lib.indexByte s.data.toList c.toNat.toUInt8)) ∧ w = w' := by
  go_enter Tryd.func97, Tryd.ntmps97
  go_wp2
  rw [run_callFunc_extern Tryd.func133 (by kernel_rfl) (by kernel_rfl) (by kernel_rfl) (e := Extern.BytealgIndexByte.indexByte) (by kernel_rfl), Lib.run_indexByteString]
  simp only [Result.andThen]
  rw [Oper.upon_value]
  go_wp2
  go_ret
  exact ⟨rfl, rfl⟩
set_option maxRecDepth 100000 in
theorem sIndexByte_lit (s : ByteArray) (c : Int) (i : Int) (w : World) (h : Lib.indexByte s.data.toList c.toNat.toUInt8 = i) :
    Calls Tryd.prog 55 #[.string s, .int .u8 c] w fun e w' => e = .returned (.int .i64 i) ∧ w = w' := by
  subst h
  go_enter Tryd.func55, Tryd.ntmps55
  go_wp2_with (go_at_call 97; refine (slIndexByte_any _ _ _).mono ?_; rintro e w' ⟨rfl, rfl⟩)
  go_ret
  exact ⟨rfl, rfl⟩
def sgI (c : Int) : Int := Lib.indexByte [95, 47, 43, 45] c.toNat.toUInt8
def nm1 (c : Int) : Bool := !letB c && !digB c && decide (sgI c < 0)
def nm2 (c : Int) : Bool := letB c || digB c || decide (c = 95) || decide (c = 47) || decide (c = 43) || decide (c = 45)
set_option maxRecDepth 100000 in
theorem name1_any (c : Int) (w : World) :
    Calls Tryd.prog 53 #[.int .u8 c] w fun e w' => e = .returned (.bool (nm1 c)) ∧ w = w' := by
  obtain ⟨r, hr⟩ : ∃ r, r = nm1 c := ⟨_, rfl⟩
  rw [← hr]
  unfold nm1 at hr
  obtain ⟨i, hi⟩ : ∃ i, sgI c = i := ⟨_, rfl⟩
  rw [hi] at hr
  cases hl : letB c <;> cases hd : digB c <;> rw [hl, hd] at hr <;> (
    have HL := Lib.hid hl
    have HD := Lib.hid hd
    have HI := Lib.hid hi
    have HR := Lib.hid hr
    clear hl hd hi hr
    go_enter Tryd.func53, Tryd.ntmps53
    go_wp2_with (first
      | (go_at_call 51; refine (letter_lit _ _ _ HL.out).mono ?_; rintro e w' ⟨rfl, rfl⟩)
      | (go_at_call 54; refine (digit_lit _ _ _ HD.out).mono ?_; rintro e w' ⟨rfl, rfl⟩)
      | (go_at_call 55; refine (sIndexByte_lit _ _ i _ (by exact HI.out)).mono ?_; rintro e w' ⟨rfl, rfl⟩))
    all_goals (go_ret; exact ⟨ret_bool (by go_light; rw [HR.out]; first | (simp [*]; done) | (simp [*]; omega)), rfl⟩))
set_option maxRecDepth 100000 in
theorem namemay1_any (c : Int) (w : World) :
    Calls Tryd.prog 67 #[.int .u8 c] w fun e w' => e = .returned (.bool (nm2 c)) ∧ w = w' := by
  obtain ⟨r, hr⟩ : ∃ r, r = nm2 c := ⟨_, rfl⟩
  rw [← hr]
  unfold nm2 at hr
  cases hl : letB c <;> cases hd : digB c <;> rw [hl, hd] at hr <;> (
    have HL := Lib.hid hl
    have HD := Lib.hid hd
    have HR := Lib.hid hr
    clear hl hd hr
    go_enter Tryd.func67, Tryd.ntmps67
    go_wp2_with (first
      | (go_at_call 65; refine (isletter_lit _ _ _ HL.out).mono ?_; rintro e w' ⟨rfl, rfl⟩)
      | (go_at_call 68; refine (isdigit_lit _ _ _ HD.out).mono ?_; rintro e w' ⟨rfl, rfl⟩))
    all_goals (go_ret; exact ⟨ret_bool (by go_light; rw [HR.out]; first | (simp [*]; done) | (simp_all; done) | (by_cases h45 : c = 45 <;> simp_all; done) | (simp [*]; omega)), rfl⟩))
theorem nm_not (b : UInt8) : nm1 ((b.toNat : Nat) : Int) = !nm2 ((b.toNat : Nat) : Int) := by
  have h : ∀ n : Nat, n < 256 → nm1 (n : Int) = !nm2 (n : Int) := by decide +kernel
  exact h _ b.toNat_lt
theorem nm_any (s : ByteArray) : (bl s).any nm1 = !(bl s).all nm2 := by
  unfold bl
  induction s.data.toList with
  | nil => rfl
  | cons x l ih => simp only [List.map_cons, List.any_cons, List.all_cons, ih, nm_not]; cases nm2 (x.toNat : Int) <;> rfl
def firstB (s : ByteArray) : Int := (bl s).getD 0 0
def nameS (s : ByteArray) : Bool := decide (1 ≤ (s.size : Int) ∧ (s.size : Int) ≤ 20) && letB (firstB s) && (bl s).all nm2
theorem first_at (s : ByteArray) (h : 0 < s.size) : ((s[0]).toNat : Int) = firstB s := by
  unfold firstB
  have h' : 0 < (bl s).length := by rw [bl_len]; exact h
  rw [List.getD_eq_getElem?_getD, List.getElem?_eq_getElem h']
  simp [bl]; rfl
set_option maxRecDepth 100000 in
theorem name_lit (s : ByteArray) (w : World) (hs : s.size ≤ maxLen) :
    Calls Tryd.prog 19 #[.string s] w fun e w' => e = .returned (.bool (nameS s)) ∧ Below w.heap.size w w' := by
  have hs' := maxLen_eq _ hs
  obtain ⟨r, hr⟩ : ∃ r, r = nameS s := ⟨_, rfl⟩
  rw [← hr]
  unfold nameS at hr
  by_cases h0 : s.size = 0
  · have hf : r = false := by rw [hr, decide_eq_false (by omega)]; rfl
    subst hf
    obtain rfl : s = ByteArray.empty := ByteArray.ext (Array.eq_empty_of_size_eq_zero h0)
    clear hr hs hs' h0
    go_enter Tryd.func19, Tryd.ntmps19
    go_wp2
    go_ret
    exact ⟨rfl, Below.refl _ _⟩
  · have hne : ¬ s = ByteArray.empty := fun e => h0 (by rw [e]; rfl)
    have hnl : ¬ s.toList = [] := fun e => hne ((toList_nil_iff_emptyBytes s).1 e)
    have hie : s.toList.isEmpty = false := by cases hl : s.toList with
      | nil => exact absurd hl hnl
      | cons a l => rfl
    by_cases h20 : s.size ≤ 20
    · cases hl : letB (firstB s)
      · have hf : r = false := by rw [hr, hl]; simp
        subst hf
        have hx : ((s[0]'(by omega)).toNat : Int) = firstB s := first_at s (by omega)
        rw [← hx] at hl
        have HL := Lib.hid hl
        have h20' : (s.size : Int) ≤ 20 := by omega
        have h0' : 0 < (s.size : Int) := by omega
        clear hr hs hl hx
        go_enter Tryd.func19, Tryd.ntmps19
        go_wp2_with (go_at_call 51; refine (letter_lit _ _ _ HL.out).mono ?_; rintro e w' ⟨rfl, rfl⟩)
        go_ret
        exact ⟨rfl, Below.refl _ _⟩
      · have hf : r = !((bl s).any nm1) := by rw [hr, hl, decide_eq_true (by omega), nm_any]; simp
        have hx : ((s[0]'(by omega)).toNat : Int) = firstB s := first_at s (by omega)
        rw [← hx] at hl
        have HL := Lib.hid hl
        have HF := Lib.hid hf
        have h20' : (s.size : Int) ≤ 20 := by omega
        have h0' : 0 < (s.size : Int) := by omega
        have hcv := fun (w : World) => Lib.run_convert_string_bytes (P := Tryd.prog) w 9 99 5 s Tryd.underlying9 Tryd.underlying99 Tryd.underlying5
        have HS := Lib.hid (slAt_bytes w 5 s hs)
        clear hr hs hl hx hf
        go_enter Tryd.func19, Tryd.ntmps19
        go_wp2_with (first
          | (go_at_call 51; refine (letter_lit _ _ _ HL.out).mono ?_; rintro e w' ⟨rfl, rfl⟩)
          | (refine (contByte_any nm1 53 _ _ _ HS.out (enters_of Tryd.func53 (by kernel_rfl) rfl) name1_any).mono ?_; rintro e w' ⟨rfl, rfl⟩))
        go_ret
        exact ⟨ret_bool HF.out.symm, Joins.below_bytesWorld _ _ _ _ (Nat.le_refl _)⟩
    · have hf : r = false := by rw [hr, decide_eq_false (by omega)]; rfl
      subst hf
      have h20' : 20 < (s.size : Int) := by omega
      clear hr hs
      go_enter Tryd.func19, Tryd.ntmps19
      go_wp2
      go_ret
      exact ⟨rfl, Below.refl _ _⟩
set_option maxRecDepth 100000 in
theorem namemay_lit (s : ByteArray) (w : World) (hs : s.size ≤ maxLen) :
    Calls Tryd.prog 24 #[.string s] w fun e w' => e = .returned (.bool (nameS s)) ∧ w = w' := by
  have hs' := maxLen_eq _ hs
  obtain ⟨r, hr⟩ : ∃ r, r = nameS s := ⟨_, rfl⟩
  rw [← hr]
  unfold nameS at hr
  by_cases hin : 1 ≤ (s.size : Int) ∧ (s.size : Int) ≤ 20
  · rw [decide_eq_true hin] at hr
    have h0 : 0 < s.size := by omega
    have D := Lib.hid (show decide ((1 : Int) ≤ s.size ∧ (s.size : Int) ≤ 20) = true from decide_eq_true hin)
    obtain ⟨l, hl⟩ : ∃ l, letB (firstB s) = l := ⟨_, rfl⟩
    rw [hl] at hr
    have hx : ((s[0]'h0).toNat : Int) = firstB s := first_at s h0
    rw [← hx] at hl
    have HL := Lib.hid hl
    have HS := Lib.hid hs
    clear hin hx hs hl
    cases l
    · have hf : r = false := by rw [hr]; simp
      subst hf
      clear hr
      go_enter Tryd.func24, Tryd.ntmps24
      go_wp2_with (first
        | (go_at_call 61; with_reducible refine (in_lit _ _ _ _ _ D.out).mono ?_; rintro e w' ⟨rfl, rfl⟩)
        | (go_at_call 65; refine (isletter_lit _ _ _ HL.out).mono ?_; rintro e w' ⟨rfl, rfl⟩))
      go_ret
      exact ⟨rfl, rfl⟩
    · have hf : r = (bl s).all nm2 := by rw [hr]; simp
      have HF := Lib.hid hf
      clear hr hf
      go_enter Tryd.func24, Tryd.ntmps24
      go_wp2_with (first
        | (go_at_call 61; with_reducible refine (in_lit _ _ _ _ _ D.out).mono ?_; rintro e w' ⟨rfl, rfl⟩)
        | (go_at_call 65; refine (isletter_lit _ _ _ HL.out).mono ?_; rintro e w' ⟨rfl, rfl⟩)
        | (refine (allof_any nm2 67 _ _ HS.out (enters_of Tryd.func67 (by kernel_rfl) rfl) namemay1_any).mono ?_; rintro e w' ⟨rfl, rfl⟩))
      go_ret
      exact ⟨ret_bool HF.out.symm, rfl⟩
  · have hf : r = false := by rw [hr, decide_eq_false hin]; rfl
    subst hf
    have D := Lib.hid (show decide ((1 : Int) ≤ s.size ∧ (s.size : Int) ≤ 20) = false from decide_eq_false hin)
    clear hr hs hin
    go_enter Tryd.func24, Tryd.ntmps24
    go_wp2_with (go_at_call 61; with_reducible refine (in_lit _ _ _ _ _ D.out).mono ?_; rintro e w' ⟨rfl, rfl⟩)
    go_ret
    exact ⟨rfl, rfl⟩
end Go.Proofs.YtdpbedkppomffaaDoor
namespace Go.Proofs.YtdpbedkppomffaaDoor
set_option linter.unusedVariables false
set_option linter.unusedSimpArgs false
open Go.ChangeShapes Go.WideShapes Go.ChangeAt Go.RowKit

def sgB (c : Int) : Bool := letB c || digB c || decide (c = 43) || decide (c = 45)
set_option maxRecDepth 100000 in
theorem plain1_any (c : Int) (w : World) :
    Calls Tryd.prog 157 #[.int .u8 c] w fun e w' => e = .returned (.bool (!sgB c)) ∧ w = w' := by
  obtain ⟨r, hr⟩ : ∃ r, r = !sgB c := ⟨_, rfl⟩
  rw [← hr]
  unfold sgB at hr
  cases hl : letB c <;> cases hd : digB c <;> rw [hl, hd] at hr <;> (
    have HL := Lib.hid hl
    have HD := Lib.hid hd
    have HR := Lib.hid hr
    clear hl hd hr
    go_enter Tryd.func157, Tryd.ntmps157
    go_wp2_with (first
      | (go_at_call 51; refine (letter_lit _ _ _ HL.out).mono ?_; rintro e w' ⟨rfl, rfl⟩)
      | (go_at_call 54; refine (digit_lit _ _ _ HD.out).mono ?_; rintro e w' ⟨rfl, rfl⟩))
    all_goals (go_ret; exact ⟨ret_bool (by go_light; rw [HR.out]; first | (simp [*]; done) | (simp_all; done) | (by_cases h45 : c = 45 <;> simp_all; done) | (by_cases h43 : c = 43 <;> by_cases h45 : c = 45 <;> simp_all; done) | (simp [*]; omega)), rfl⟩))
set_option maxRecDepth 100000 in
theorem signs1_any (c : Int) (w : World) :
    Calls Tryd.prog 158 #[.int .u8 c] w fun e w' => e = .returned (.bool (sgB c)) ∧ w = w' := by
  obtain ⟨r, hr⟩ : ∃ r, r = sgB c := ⟨_, rfl⟩
  rw [← hr]
  unfold sgB at hr
  cases hl : letB c <;> cases hd : digB c <;> rw [hl, hd] at hr <;> (
    have HL := Lib.hid hl
    have HD := Lib.hid hd
    have HR := Lib.hid hr
    clear hl hd hr
    go_enter Tryd.func158, Tryd.ntmps158
    go_wp2_with (first
      | (go_at_call 65; refine (isletter_lit _ _ _ HL.out).mono ?_; rintro e w' ⟨rfl, rfl⟩)
      | (go_at_call 68; refine (isdigit_lit _ _ _ HD.out).mono ?_; rintro e w' ⟨rfl, rfl⟩))
    all_goals (go_ret; exact ⟨ret_bool (by go_light; rw [HR.out]; first | (simp [*]; done) | (simp_all; done) | (by_cases h45 : c = 45 <;> simp_all; done) | (by_cases h43 : c = 43 <;> by_cases h45 : c = 45 <;> simp_all; done) | (simp [*]; omega)), rfl⟩))
/-- all bytes are signs. -/
def sgS (s : ByteArray) : Bool := (bl s).all sgB
def plS (s : ByteArray) : Bool := decide (0 < (s.size : Int)) && sgS s
theorem plain_any (s : ByteArray) (w : World) (hs : s.size ≤ maxLen) :
    Calls Tryd.prog 130 #[.string s] w fun e w' => e = .returned (.bool (plS s)) ∧ Below w.heap.size w w' := by
  have hs' := maxLen_eq _ hs
  obtain ⟨r, hr⟩ : ∃ r, r = plS s := ⟨_, rfl⟩
  rw [← hr]
  unfold plS sgS at hr
  by_cases h0 : s.size = 0
  · have hf : r = false := by rw [hr, decide_eq_false (by omega)]; rfl
    subst hf
    obtain rfl : s = ByteArray.empty := ByteArray.ext (Array.eq_empty_of_size_eq_zero h0)
    clear hr hs hs' h0
    go_enter Tryd.func130, Tryd.ntmps130
    go_wp2
    go_ret
    exact ⟨rfl, Below.refl _ _⟩
  · have hne : ¬ s = ByteArray.empty := fun e => h0 (by rw [e]; rfl)
    have hnl : ¬ s.toList = [] := fun e => hne ((toList_nil_iff_emptyBytes s).1 e)
    have hie : s.toList.isEmpty = false := by cases hl : s.toList with
      | nil => exact absurd hl hnl
      | cons a l => rfl
    have hf : r = !((bl s).any fun c => !sgB c) := by rw [hr, decide_eq_true (by omega), any_not]; simp
    have HF := Lib.hid hf
    have hcv := fun (w : World) => Lib.run_convert_string_bytes (P := Tryd.prog) w 9 99 5 s Tryd.underlying9 Tryd.underlying99 Tryd.underlying5
    have HS := Lib.hid (slAt_bytes w 5 s hs)
    clear hr hs hf
    go_enter Tryd.func130, Tryd.ntmps130
    go_wp2_with fail
    refine (contByte_any (fun c => !sgB c) 157 _ _ _ HS.out (enters_of Tryd.func157 (by kernel_rfl) rfl) plain1_any).mono ?_; rintro e w' ⟨rfl, rfl⟩
    go_wp2
    go_ret
    exact ⟨ret_bool HF.out.symm, Joins.below_bytesWorld _ _ _ _ (Nat.le_refl _)⟩
theorem signs_any (s : ByteArray) (w : World) (hs : s.size ≤ maxLen) :
    Calls Tryd.prog 134 #[.string s] w fun e w' => e = .returned (.bool (sgS s)) ∧ w = w' := by
  have HS := Lib.hid hs
  clear hs
  go_enter Tryd.func134, Tryd.ntmps134
  go_wp2_with fail
  refine (allof_any sgB 158 _ _ HS.out (enters_of Tryd.func158 (by kernel_rfl) rfl) signs1_any).mono ?_; rintro e w' ⟨rfl, rfl⟩
  go_wp2
  go_ret
  exact ⟨rfl, rfl⟩
end Go.Proofs.YtdpbedkppomffaaDoor
