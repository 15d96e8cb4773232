/-
  What the functions on answers and forests answer: answers. What the functions on forests answer: the check. What the document's function on forests answers: the check; and the law. What the functions on letters and names answer. What the functions on names answer. What plain and signs answer (the parts of a format). Formats of eras, plain: where a slash, or a mark, first stands.
-/
import Derived.Shelf.Abstract
import Derived.Lib.ConvBytes
import Derived.Lib.SmallJoins
import Derived.Lib.Bytealg
import Derived.Laws.Closers25b
import Derived.Lib.IndexMore
import Derived.Test.YtbikdlcjbigafaaGreatDoorJBase
namespace Go.Proofs.YtbikdlcjbigafaaGreatDoor
set_option linter.unusedVariables false
set_option linter.unusedSimpArgs false
open Go.ChangeShapes Go.WideShapes Go.ChangeAt Go.RowKit

/-- where the first one is; -1: none. -/
def fidx {α : Type} (p : α → Bool) : List α → Int
  | [] => -1
  | x :: xs => if p x then 0 else if fidx p xs < 0 then -1 else fidx p xs + 1
theorem fidx_lo {α : Type} (p : α → Bool) : ∀ xs : List α, -1 ≤ fidx p xs ∧ fidx p xs < xs.length
  | [] => by simp [fidx]
  | x :: xs => by
    have := fidx_lo p xs
    unfold fidx; split
    · simp
    · split <;> simp <;> omega
/-- the first at which it holds: at k, none ahead of it. -/
theorem fidx_at {α : Type} (p : α → Bool) : ∀ (xs : List α) (k : Nat) (h : k < xs.length), (∀ i (hi : i < k), p (xs[i]'(by omega)) = false) → p xs[k] = true → fidx p xs = k
  | x :: xs, 0, _, _, hp => by unfold fidx; simp at hp; simp [hp]
  | x :: xs, k + 1, h, hn, hp => by
    have h0 := hn 0 (by omega)
    simp at h0
    have ih := fidx_at p xs k (by simpa using h) (fun i hi => by have := hn (i + 1) (by omega); simpa using this) (by simpa using hp)
    unfold fidx; simp [h0]; omega
theorem fidx_none {α : Type} (p : α → Bool) : ∀ (xs : List α), (∀ i (hi : i < xs.length), p xs[i] = false) → fidx p xs = -1
  | [], _ => rfl
  | x :: xs, hn => by
    have h0 := hn 0 (by simp)
    simp at h0
    have ih := fidx_none p xs (fun i hi => by have := hn (i + 1) (by simpa using hi); simpa using this)
    unfold fidx; simp [h0, ih]
theorem fidx_any {α : Type} (p : α → Bool) : ∀ (xs : List α), decide (0 ≤ fidx p xs) = xs.any p
  | [] => rfl
  | x :: xs => by
    have ih := fidx_any p xs
    have hb := fidx_lo p xs
    unfold fidx
    cases h : p x
    · simp [h]
      rw [← ih]
      split <;> simp <;> omega
    · simp [h]
theorem SlAt.shape {α : Type} {w : World} {sz : Nat} {R : List Value → α → Prop} {v : Value} {xs : List α} (h : SlAt w sz R v xs) : ∃ a cap, v = .slice a xs.length cap ∧ xs.length ≤ maxLen := by
  rcases h with ⟨a, cap, rfl, rfl⟩ | ⟨b, off, cap, rfl, h0, h1, h2, h3, h4⟩
  · exact ⟨a, cap, rfl, by simp⟩
  · exact ⟨_, cap, rfl, by omega⟩
theorem maxLen_eq (n : Nat) (h : n ≤ maxLen) : n ≤ 9223372036854775807 := by unfold maxLen at h; omega
end Go.Proofs.YtbikdlcjbigafaaGreatDoor
namespace Go.Proofs.YtbikdlcjbigafaaGreatDoor
set_option linter.unusedVariables false
set_option linter.unusedSimpArgs false
open Go.ChangeShapes Go.WideShapes Go.ChangeAt Go.RowKit

/-- the first number that is not 0. -/
def ferr {α : Type} (f : Nat → α → Int) : Nat → List α → Int
  | _, [] => 0
  | i, x :: xs => if f i x ≠ 0 then f i x else ferr f (i + 1) xs
theorem ferr_at {α : Type} (f : Nat → α → Int) : ∀ (xs : List α) (s k : Nat) (h : k < xs.length), (∀ i (hi : i < k), f (s + i) (xs[i]'(by omega)) = 0) → f (s + k) xs[k] ≠ 0 → ferr f s xs = f (s + k) xs[k]
  | x :: xs, s, 0, _, _, hp => by unfold ferr; simp at hp ⊢; simp [hp]
  | x :: xs, s, k + 1, h, hn, hp => by
    have h0 := hn 0 (by omega)
    simp at h0
    have ih := ferr_at f xs (s + 1) k (by simpa using h) (fun i hi => by have := hn (i + 1) (by omega); simpa [Nat.add_assoc, Nat.add_comm 1 i] using this) (by simpa [Nat.add_assoc, Nat.add_comm 1 k] using hp)
    unfold ferr; simp [h0]
    rw [ih]; simp [Nat.add_assoc, Nat.add_comm 1 k]
theorem ferr_none {α : Type} (f : Nat → α → Int) : ∀ (xs : List α) (s : Nat), (∀ i (hi : i < xs.length), f (s + i) xs[i] = 0) → ferr f s xs = 0
  | [], _, _ => rfl
  | x :: xs, s, hn => by
    have h0 := hn 0 (by simp)
    simp at h0
    have ih := ferr_none f xs (s + 1) (fun i hi => by have := hn (i + 1) (by simpa using hi); simpa [Nat.add_assoc, Nat.add_comm 1 i] using this)
    unfold ferr; simp [h0, ih]
end Go.Proofs.YtbikdlcjbigafaaGreatDoor
namespace Go.Proofs.YtbikdlcjbigafaaGreatDoor
set_option linter.unusedVariables false
set_option linter.unusedSimpArgs false
open Go.ChangeShapes Go.WideShapes Go.ChangeAt Go.RowKit

end Go.Proofs.YtbikdlcjbigafaaGreatDoor
namespace Go.Proofs.YtbikdlcjbigafaaGreatDoor
set_option linter.unusedVariables false
set_option linter.unusedSimpArgs false
open Go.ChangeShapes Go.WideShapes Go.ChangeAt Go.RowKit

def letB (c : Int) : Bool := (decide (97 ≤ c) && decide (c ≤ 122)) || (decide (65 ≤ c) && decide (c ≤ 90))
def digB (c : Int) : Bool := decide (48 ≤ c) && decide (c ≤ 57)
theorem letter_any (c : Int) (w : World) :
    Calls Tryz.prog 101 #[.int .u8 c] w fun e w' => e = .returned (.bool (letB c)) ∧ w = w' := by
  obtain ⟨r, hr⟩ : ∃ r, r = letB c := ⟨_, rfl⟩
  rw [← hr]
  have H := Lib.hid hr
  clear hr
  go_enter Tryz.func101, Tryz.ntmps101
  go_wp2
  all_goals (go_ret; exact ⟨ret_bool (by go_light; rw [H.out]; unfold letB; first | (simp [*]; done) | (simp [*]; omega)), rfl⟩)
theorem letters1_any (c : Int) (w : World) :
    Calls Tryz.prog 148 #[.int .u8 c] w fun e w' => e = .returned (.bool (!letB c)) ∧ w = w' := by
  go_enter Tryz.func148, Tryz.ntmps148
  go_wp2_with (go_at_call 101; refine (letter_any _ _).mono ?_; rintro e w' ⟨rfl, rfl⟩)
  go_ret
  exact ⟨rfl, rfl⟩
def RByte (cs : List Value) (x : Int) : Prop := cs = [.int .u8 x]
/-- a string's bytes. -/
def bl (s : ByteArray) : List Int := s.data.toList.map fun b => (b.toNat : Int)
theorem bl_len (s : ByteArray) : (bl s).length = s.size := by simp [bl]
theorem slAt_bytes (w : World) (e : TypeId) (s : ByteArray) (h : s.size ≤ maxLen) : SlAt (Lib.bytesWorld w e s) 1 RByte (.slice (some ⟨w.heap.size, 0, none⟩) s.size (grownCap w s.size 0 e)) (bl s) := by
  by_cases h0 : s.size = 0
  · left
    refine ⟨_, _, by rw [h0], ?_⟩
    have := bl_len s
    rw [h0] at this
    exact List.length_eq_zero_iff.1 this
  · right
    refine ⟨w.heap.size, 0, _, by rw [bl_len], by rw [bl_len]; omega, by rw [bl_len]; exact grownCap_ge _ _ _ _, grownCap_le_maxLen _ _ _ _ h, by rw [Lib.bytesWorld_size]; omega, fun i hi => ?_⟩
    rw [bl_len] at hi
    refine ⟨[.int .u8 ((bl s)[i]'(by rw [bl_len]; exact hi))], rfl, rfl, fun j hj => ?_⟩
    obtain rfl : j = 0 := by omega
    have := Lib.bytesWorld_cell w e s i hi
    rw [show 0 + i * 1 + 0 = i by omega, this]
    simp [bl, List.getD, hi]
/-- the cell of element i. -/
theorem byteCell {w : World} {b off : Nat} {xs : List Int} (h4 : ∀ (i : Nat) (h : i < xs.length), ∃ cs : List Value, cs.length = 1 ∧ RByte cs xs[i] ∧ ∀ j, j < 1 → w.cell? ⟨b, off + i * 1 + j, none⟩ = cs[j]?) (i : Nat) (h : i < xs.length) :
    w.cell? ⟨b, off + i, none⟩ = some (.int .u8 xs[i]) ∧ True := by
  obtain ⟨cs, _, rfl, hc⟩ := h4 i h
  have := hc 0 (by omega)
  rw [Nat.mul_one, Nat.add_zero] at this
  exact ⟨this, trivial⟩
set_option maxHeartbeats 400000 in
set_option maxRecDepth 100000 in
theorem idxByte_any (p : Int → Bool) (F : Nat) (v : Value) (xs : List Int) (w : World) (hv : SlAt w 1 RByte v xs) (eg : ∀ args w, (callFunc F args).run Tryz.prog w = .ok (.enter F args) w) (hF : ∀ (x : Int) (w : World), Calls Tryz.prog F #[.int .u8 x] w fun e w' => e = .returned (.bool (p x)) ∧ w = w') :
    Calls Tryz.prog 150 #[v, .func (.func F) #[] #[]] w fun e w' => e = .returned (.int .i64 (fidx p xs)) ∧ w = w' := by
  have HF := Lib.hid hF
  clear hF
  rcases hv with ⟨a, cap, rfl, rfl⟩ | ⟨b, off, cap, rfl, h0, h1, h2, h3, h4⟩
  · go_enter Tryz.func150, Tryz.ntmps150
    go_wp2
    refine wp_loop_rounds 1 ?_
    rw [rounds_succ]
    go_wp2
    go_ret
    exact ⟨rfl, rfl⟩
  · have H4 := Lib.hid (byteCell h4)
    have h5 : xs.length ≤ 9223372036854775807 := by unfold maxLen at h2; omega
    clear h4 h2
    go_enter Tryz.func150, Tryz.ntmps150
    go_wp2
    go_loop [8] (fun t => ∃ k : Nat, k ≤ xs.length ∧ t = .int .i64 k ∧ Hid (∀ i (hi : i < xs.length), i < k → p xs[i] = false)) (fun t => (xs.length - intOf t).toNat)
    case atStart => exact ⟨0, by omega, rfl, fun i _ h => by omega⟩
    case round =>
      obtain ⟨k, hk, rfl, hn⟩ := hrel
      by_cases hlt : k < xs.length
      · have hc := (H4.out k hlt).1
        by_cases hp : p xs[k] = true
        · have hfin := Lib.hid (fidx_at p xs k hlt (fun i hi => hn.out i (by omega) hi) hp)
          generalize xs[k] = x at hc hp
          go_wp2_with fail
          refine (HF.out _ _).mono ?_; rintro e w' ⟨rfl, rfl⟩
          go_wp2
          go_ret
          exact ⟨ret_int hfin.out.symm, rfl⟩
        · have hp' : p xs[k] = false := by simpa using hp
          clear hp
          have hn' : Hid (∀ i (hi : i < xs.length), i < k + 1 → p xs[i] = false) := fun i hi h => by
            by_cases e : i = k
            · subst e; exact hp'
            · exact hn.out i hi (by omega)
          generalize xs[k] = x at hc hp'
          go_wp2_with fail
          refine (HF.out _ _).mono ?_; rintro e w' ⟨rfl, rfl⟩
          go_wp2
          go_round
          case rel => exact ⟨k + 1, by omega, by go_num, hn'⟩
          case measure => simp [intOf]; omega
      · have hfin := Lib.hid (fidx_none p xs (fun i hi => hn.out i hi (by omega)))
        go_wp2
        go_ret
        exact ⟨ret_int hfin.out.symm, rfl⟩
theorem contByte_any (p : Int → Bool) (F : Nat) (v : Value) (xs : List Int) (w : World) (hv : SlAt w 1 RByte v xs) (eg : ∀ args w, (callFunc F args).run Tryz.prog w = .ok (.enter F args) w) (hF : ∀ (x : Int) (w : World), Calls Tryz.prog F #[.int .u8 x] w fun e w' => e = .returned (.bool (p x)) ∧ w = w') :
    Calls Tryz.prog 102 #[v, .func (.func F) #[] #[]] w fun e w' => e = .returned (.bool (xs.any p)) ∧ w = w' := by
  have HI := Lib.hid (idxByte_any p F v xs w hv eg hF)
  have HA := Lib.hid (fidx_any p xs)
  clear hF eg hv
  go_enter Tryz.func102, Tryz.ntmps102
  go_wp2_with fail
  refine HI.out.mono ?_; rintro e w' ⟨rfl, rfl⟩
  go_wp2
  go_ret
  exact ⟨ret_bool HA.out, rfl⟩
def letsB (s : ByteArray) : Bool := decide ((s.size : Int) ≤ 6) && (bl s).all letB
theorem any_not (p : Int → Bool) (l : List Int) : (l.any fun c => !p c) = !l.all p := by
  induction l with
  | nil => rfl
  | cons x l ih => simp only [List.any_cons, List.all_cons, ih]; cases p x <;> rfl
set_option maxRecDepth 100000 in
theorem letters_any (s : ByteArray) (w : World) (hs : s.size ≤ maxLen) :
    Calls Tryz.prog 98 #[.string s] w fun e w' => e = .returned (.bool (letsB s)) ∧ Below w.heap.size w w' := by
  have hs' := maxLen_eq _ hs
  by_cases h6 : s.size ≤ 6
  · have h6' : (s.size : Int) ≤ 6 := by omega
    have HR : Hid (letsB s = !((bl s).any fun c => !letB c)) := by
      show letsB s = _
      unfold letsB; rw [any_not, decide_eq_true h6']; simp
    have hcv := fun (w : World) => Lib.run_convert_string_bytes (P := Tryz.prog) w 9 157 5 s Tryz.underlying9 Tryz.underlying157 Tryz.underlying5
    have HS := Lib.hid (slAt_bytes w 5 s hs)
    clear hs
    go_enter Tryz.func98, Tryz.ntmps98
    go_wp2_with fail
    refine (contByte_any (fun c => !letB c) 148 _ _ _ HS.out (enters_of Tryz.func148 (by kernel_rfl) rfl) letters1_any).mono ?_; rintro e w' ⟨rfl, rfl⟩
    go_wp2
    go_ret
    exact ⟨ret_bool HR.out.symm, Joins.below_bytesWorld _ _ _ _ (Nat.le_refl _)⟩
  · have h6' : 6 < (s.size : Int) := by omega
    have HR : Hid (letsB s = false) := by
      show letsB s = false
      unfold letsB; rw [decide_eq_false (by omega)]; simp
    clear hs h6
    go_enter Tryz.func98, Tryz.ntmps98
    go_wp2
    go_ret
    exact ⟨ret_bool HR.out.symm, Below.refl _ _⟩
end Go.Proofs.YtbikdlcjbigafaaGreatDoor
namespace Go.Proofs.YtbikdlcjbigafaaGreatDoor
set_option linter.unusedVariables false
set_option linter.unusedSimpArgs false
open Go.ChangeShapes Go.WideShapes Go.ChangeAt Go.RowKit

theorem letter_lit (c : Int) (r : Bool) (w : World) (h : letB c = r) :
    Calls Tryz.prog 101 #[.int .u8 c] w fun e w' => e = .returned (.bool r) ∧ w = w' := h ▸ letter_any c w
theorem digit_lit (c : Int) (r : Bool) (w : World) (hr : digB c = r) :
    Calls Tryz.prog 104 #[.int .u8 c] w fun e w' => e = .returned (.bool r) ∧ w = w' := by
  have H := Lib.hid hr.symm
  clear hr
  go_enter Tryz.func104, Tryz.ntmps104
  go_wp2
  all_goals (go_ret; exact ⟨ret_bool (by go_light; rw [H.out]; unfold digB; first | (simp [*]; done) | (simp [*]; omega)), rfl⟩)
set_option maxRecDepth 100000 in
theorem slIndexByte_any (s : ByteArray) (c : Int) (w : World) :
    Calls Tryz.prog 151 #[.string s, .int .u8 c] w fun e w' => e = .returned (.int .i64 (Lib.indexByte s.data.toList c.toNat.toUInt8)) ∧ w = w' := by
  go_enter Tryz.func151, Tryz.ntmps151
  go_wp2
  rw [run_callFunc_extern Tryz.func179 (by kernel_rfl) (by kernel_rfl) (by kernel_rfl) (e := Extern.BytealgIndexByte.indexByte) (by kernel_rfl), Lib.run_indexByteString]
  simp only [Result.andThen]
  rw [Oper.upon_value]
  go_wp2
  go_ret
  exact ⟨rfl, rfl⟩
set_option maxRecDepth 100000 in
theorem sIndexByte_lit (s : ByteArray) (c : Int) (i : Int) (w : World) (h : Lib.indexByte s.data.toList c.toNat.toUInt8 = i) :
    Calls Tryz.prog 105 #[.string s, .int .u8 c] w fun e w' => e = .returned (.int .i64 i) ∧ w = w' := by
  subst h
  go_enter Tryz.func105, Tryz.ntmps105
  go_wp2_with (go_at_call 151; refine (slIndexByte_any _ _ _).mono ?_; rintro e w' ⟨rfl, rfl⟩)
  go_ret
  exact ⟨rfl, rfl⟩
def sgI (c : Int) : Int := Lib.indexByte [95, 47, 43, 45] c.toNat.toUInt8
def nm1 (c : Int) : Bool := !letB c && !digB c && decide (sgI c < 0)
def nm2 (c : Int) : Bool := letB c || digB c || decide (c = 95) || decide (c = 47) || decide (c = 43) || decide (c = 45)
set_option maxRecDepth 100000 in
theorem name1_any (c : Int) (w : World) :
    Calls Tryz.prog 103 #[.int .u8 c] w fun e w' => e = .returned (.bool (nm1 c)) ∧ w = w' := by
  obtain ⟨r, hr⟩ : ∃ r, r = nm1 c := ⟨_, rfl⟩
  rw [← hr]
  unfold nm1 at hr
  obtain ⟨i, hi⟩ : ∃ i, sgI c = i := ⟨_, rfl⟩
  rw [hi] at hr
  cases hl : letB c <;> cases hd : digB c <;> rw [hl, hd] at hr <;> (
    have HL := Lib.hid hl
    have HD := Lib.hid hd
    have HI := Lib.hid hi
    have HR := Lib.hid hr
    clear hl hd hi hr
    go_enter Tryz.func103, Tryz.ntmps103
    go_wp2_with (first
      | (go_at_call 101; refine (letter_lit _ _ _ HL.out).mono ?_; rintro e w' ⟨rfl, rfl⟩)
      | (go_at_call 104; refine (digit_lit _ _ _ HD.out).mono ?_; rintro e w' ⟨rfl, rfl⟩)
      | (go_at_call 105; refine (sIndexByte_lit _ _ i _ (by exact HI.out)).mono ?_; rintro e w' ⟨rfl, rfl⟩))
    all_goals (go_ret; exact ⟨ret_bool (by go_light; rw [HR.out]; first | (simp [*]; done) | (simp [*]; omega)), rfl⟩))
theorem nm_not (b : UInt8) : nm1 ((b.toNat : Nat) : Int) = !nm2 ((b.toNat : Nat) : Int) := by
  have h : ∀ n : Nat, n < 256 → nm1 (n : Int) = !nm2 (n : Int) := by decide +kernel
  exact h _ b.toNat_lt
theorem nm_any (s : ByteArray) : (bl s).any nm1 = !(bl s).all nm2 := by
  unfold bl
  induction s.data.toList with
  | nil => rfl
  | cons x l ih => simp only [List.map_cons, List.any_cons, List.all_cons, ih, nm_not]; cases nm2 (x.toNat : Int) <;> rfl
def firstB (s : ByteArray) : Int := (bl s).getD 0 0
def nameS (s : ByteArray) : Bool := decide (1 ≤ (s.size : Int) ∧ (s.size : Int) ≤ 20) && letB (firstB s) && (bl s).all nm2
theorem first_at (s : ByteArray) (h : 0 < s.size) : ((s[0]).toNat : Int) = firstB s := by
  unfold firstB
  have h' : 0 < (bl s).length := by rw [bl_len]; exact h
  rw [List.getD_eq_getElem?_getD, List.getElem?_eq_getElem h']
  simp [bl]; rfl
set_option maxRecDepth 100000 in
theorem name_lit (s : ByteArray) (w : World) (hs : s.size ≤ maxLen) :
    Calls Tryz.prog 62 #[.string s] w fun e w' => e = .returned (.bool (nameS s)) ∧ Below w.heap.size w w' := by
  have hs' := maxLen_eq _ hs
  obtain ⟨r, hr⟩ : ∃ r, r = nameS s := ⟨_, rfl⟩
  rw [← hr]
  unfold nameS at hr
  by_cases h0 : s.size = 0
  · have hf : r = false := by rw [hr, decide_eq_false (by omega)]; rfl
    subst hf
    obtain rfl : s = ByteArray.empty := ByteArray.ext (Array.eq_empty_of_size_eq_zero h0)
    clear hr hs hs' h0
    go_enter Tryz.func62, Tryz.ntmps62
    go_wp2
    go_ret
    exact ⟨rfl, Below.refl _ _⟩
  · have hne : ¬ s = ByteArray.empty := fun e => h0 (by rw [e]; rfl)
    have hnl : ¬ s.toList = [] := fun e => hne ((toList_nil_iff_emptyBytes s).1 e)
    have hie : s.toList.isEmpty = false := by cases hl : s.toList with
      | nil => exact absurd hl hnl
      | cons a l => rfl
    by_cases h20 : s.size ≤ 20
    · cases hl : letB (firstB s)
      · have hf : r = false := by rw [hr, hl]; simp
        subst hf
        have hx : ((s[0]'(by omega)).toNat : Int) = firstB s := first_at s (by omega)
        rw [← hx] at hl
        have HL := Lib.hid hl
        have h20' : (s.size : Int) ≤ 20 := by omega
        have h0' : 0 < (s.size : Int) := by omega
        clear hr hs hl hx
        go_enter Tryz.func62, Tryz.ntmps62
        go_wp2_with (go_at_call 101; refine (letter_lit _ _ _ HL.out).mono ?_; rintro e w' ⟨rfl, rfl⟩)
        go_ret
        exact ⟨rfl, Below.refl _ _⟩
      · have hf : r = !((bl s).any nm1) := by rw [hr, hl, decide_eq_true (by omega), nm_any]; simp
        have hx : ((s[0]'(by omega)).toNat : Int) = firstB s := first_at s (by omega)
        rw [← hx] at hl
        have HL := Lib.hid hl
        have HF := Lib.hid hf
        have h20' : (s.size : Int) ≤ 20 := by omega
        have h0' : 0 < (s.size : Int) := by omega
        have hcv := fun (w : World) => Lib.run_convert_string_bytes (P := Tryz.prog) w 9 157 5 s Tryz.underlying9 Tryz.underlying157 Tryz.underlying5
        have HS := Lib.hid (slAt_bytes w 5 s hs)
        clear hr hs hl hx hf
        go_enter Tryz.func62, Tryz.ntmps62
        go_wp2_with (first
          | (go_at_call 101; refine (letter_lit _ _ _ HL.out).mono ?_; rintro e w' ⟨rfl, rfl⟩)
          | (refine (contByte_any nm1 103 _ _ _ HS.out (enters_of Tryz.func103 (by kernel_rfl) rfl) name1_any).mono ?_; rintro e w' ⟨rfl, rfl⟩))
        go_ret
        exact ⟨ret_bool HF.out.symm, Joins.below_bytesWorld _ _ _ _ (Nat.le_refl _)⟩
    · have hf : r = false := by rw [hr, decide_eq_false (by omega)]; rfl
      subst hf
      have h20' : 20 < (s.size : Int) := by omega
      clear hr hs
      go_enter Tryz.func62, Tryz.ntmps62
      go_wp2
      go_ret
      exact ⟨rfl, Below.refl _ _⟩
end Go.Proofs.YtbikdlcjbigafaaGreatDoor
namespace Go.Proofs.YtbikdlcjbigafaaGreatDoor
set_option linter.unusedVariables false
set_option linter.unusedSimpArgs false
open Go.ChangeShapes Go.WideShapes Go.ChangeAt Go.RowKit

def sgB (c : Int) : Bool := letB c || digB c || decide (c = 43) || decide (c = 45)
set_option maxRecDepth 100000 in
theorem plain1_any (c : Int) (w : World) :
    Calls Tryz.prog 188 #[.int .u8 c] w fun e w' => e = .returned (.bool (!sgB c)) ∧ w = w' := by
  obtain ⟨r, hr⟩ : ∃ r, r = !sgB c := ⟨_, rfl⟩
  rw [← hr]
  unfold sgB at hr
  cases hl : letB c <;> cases hd : digB c <;> rw [hl, hd] at hr <;> (
    have HL := Lib.hid hl
    have HD := Lib.hid hd
    have HR := Lib.hid hr
    clear hl hd hr
    go_enter Tryz.func188, Tryz.ntmps188
    go_wp2_with (first
      | (go_at_call 101; refine (letter_lit _ _ _ HL.out).mono ?_; rintro e w' ⟨rfl, rfl⟩)
      | (go_at_call 104; refine (digit_lit _ _ _ HD.out).mono ?_; rintro e w' ⟨rfl, rfl⟩))
    all_goals (go_ret; exact ⟨ret_bool (by go_light; rw [HR.out]; first | (simp [*]; done) | (simp_all; done) | (by_cases h45 : c = 45 <;> simp_all; done) | (by_cases h43 : c = 43 <;> by_cases h45 : c = 45 <;> simp_all; done) | (simp [*]; omega)), rfl⟩))
/-- all bytes are signs. -/
def sgS (s : ByteArray) : Bool := (bl s).all sgB
def plS (s : ByteArray) : Bool := decide (0 < (s.size : Int)) && sgS s
theorem plain_any (s : ByteArray) (w : World) (hs : s.size ≤ maxLen) :
    Calls Tryz.prog 165 #[.string s] w fun e w' => e = .returned (.bool (plS s)) ∧ Below w.heap.size w w' := by
  have hs' := maxLen_eq _ hs
  obtain ⟨r, hr⟩ : ∃ r, r = plS s := ⟨_, rfl⟩
  rw [← hr]
  unfold plS sgS at hr
  by_cases h0 : s.size = 0
  · have hf : r = false := by rw [hr, decide_eq_false (by omega)]; rfl
    subst hf
    obtain rfl : s = ByteArray.empty := ByteArray.ext (Array.eq_empty_of_size_eq_zero h0)
    clear hr hs hs' h0
    go_enter Tryz.func165, Tryz.ntmps165
    go_wp2
    go_ret
    exact ⟨rfl, Below.refl _ _⟩
  · have hne : ¬ s = ByteArray.empty := fun e => h0 (by rw [e]; rfl)
    have hnl : ¬ s.toList = [] := fun e => hne ((toList_nil_iff_emptyBytes s).1 e)
    have hie : s.toList.isEmpty = false := by cases hl : s.toList with
      | nil => exact absurd hl hnl
      | cons a l => rfl
    have hf : r = !((bl s).any fun c => !sgB c) := by rw [hr, decide_eq_true (by omega), any_not]; simp
    have HF := Lib.hid hf
    have hcv := fun (w : World) => Lib.run_convert_string_bytes (P := Tryz.prog) w 9 157 5 s Tryz.underlying9 Tryz.underlying157 Tryz.underlying5
    have HS := Lib.hid (slAt_bytes w 5 s hs)
    clear hr hs hf
    go_enter Tryz.func165, Tryz.ntmps165
    go_wp2_with fail
    refine (contByte_any (fun c => !sgB c) 188 _ _ _ HS.out (enters_of Tryz.func188 (by kernel_rfl) rfl) plain1_any).mono ?_; rintro e w' ⟨rfl, rfl⟩
    go_wp2
    go_ret
    exact ⟨ret_bool HF.out.symm, Joins.below_bytesWorld _ _ _ _ (Nat.le_refl _)⟩
end Go.Proofs.YtbikdlcjbigafaaGreatDoor
namespace Go.Proofs.YtbikdlcjbigafaaGreatDoor
set_option linter.unusedVariables false
set_option linter.unusedSimpArgs false
open Go.ChangeShapes Go.WideShapes Go.ChangeAt Go.RowKit

def sgL (l : List UInt8) : Bool := l.all fun b => sgB (b.toNat : Int)
def plL (l : List UInt8) : Bool := !l.isEmpty && sgL l
theorem sgS_eq (s : ByteArray) : sgS s = sgL s.data.toList := by
  unfold sgS sgL bl; rw [List.all_map]; rfl
theorem plS_eq (s : ByteArray) : plS s = plL s.data.toList := by
  unfold plS plL
  rw [sgS_eq]
  have h : s.size = s.data.toList.length := by simp
  rw [h]
  cases s.data.toList with
  | nil => rfl
  | cons a l => simp
def slashAt (l : List UInt8) : Int := Lib.index l [47]
def markAt (l : List UInt8) : Int := Lib.index l [37, 115]
def fmtL (l : List UInt8) : Bool :=
  decide (1 ≤ (l.length : Int) ∧ (l.length : Int) ≤ 12) &&
  (bif decide (0 ≤ slashAt l) then plL (l.take (slashAt l).toNat) && plL (l.drop ((slashAt l).toNat + 1))
  else bif decide (0 ≤ markAt l) then sgL (l.take (markAt l).toNat) && sgL (l.drop ((markAt l).toNat + 2))
  else sgL l)
theorem occ2 (l : List UInt8) (a c : UInt8) (j : Nat) : Lib.occAt l [a, c] j = (l[j]? == some a && l[j + 1]? == some c) := by
  unfold Lib.occAt
  rw [← List.head?_drop, show l[j + 1]? = (l.drop j)[1]? by rw [List.getElem?_drop]]
  cases l.drop j with
  | nil => rfl
  | cons b t => cases t <;> simp [List.isPrefixOf, Bool.beq_eq_decide_eq, eq_comm]
theorem fmt_size {l : List UInt8} (h : ¬ (1 ≤ (l.length : Int) ∧ (l.length : Int) ≤ 12)) : fmtL l = false := by
  unfold fmtL; rw [decide_eq_false h]; rfl
theorem fmt_slash {l : List UInt8} {k : Nat} (h : 1 ≤ (l.length : Int) ∧ (l.length : Int) ≤ 12) (hi : Lib.index l [47] = k) : fmtL l = (plL (l.take k) && plL (l.drop (k + 1))) := by
  unfold fmtL slashAt
  rw [decide_eq_true h, hi, decide_eq_true (by omega)]
  simp
theorem fmt_mark {l : List UInt8} {k : Nat} (h : 1 ≤ (l.length : Int) ∧ (l.length : Int) ≤ 12) (hi : Lib.index l [47] = -1) (hm : Lib.index l [37, 115] = k) : fmtL l = (sgL (l.take k) && sgL (l.drop (k + 2))) := by
  unfold fmtL slashAt markAt
  rw [decide_eq_true h, hi, hm, decide_eq_true (show (0 : Int) ≤ k by omega)]
  simp
theorem fmt_plain {l : List UInt8} (h : 1 ≤ (l.length : Int) ∧ (l.length : Int) ≤ 12) (hi : Lib.index l [47] = -1) (hm : Lib.index l [37, 115] = -1) : fmtL l = sgL l := by
  unfold fmtL slashAt markAt
  rw [decide_eq_true h, hi, hm]
  simp
theorem cut_at {l sep : List UInt8} {k : Nat} (h : Lib.index l sep = k) : Lib.cut l sep = (l.take k, l.drop (k + sep.length), true) := by
  unfold Lib.cut
  rw [h, if_pos (by omega)]; simp
theorem cut_none {l sep : List UInt8} (h : Lib.index l sep = -1) : Lib.cut l sep = (l, [], false) := by
  unfold Lib.cut
  rw [h, if_neg (by omega)]
theorem ix_cases (l sep : List UInt8) : Lib.index l sep = -1 ∨ ∃ k : Nat, Lib.index l sep = k ∧ k + sep.length ≤ l.length := by
  have h1 := Lib.index_ge l sep
  by_cases h : Lib.index l sep = -1
  · exact .inl h
  · have h2 := Lib.index_room l sep (by omega)
    exact .inr ⟨(Lib.index l sep).toNat, by omega, by omega⟩
end Go.Proofs.YtbikdlcjbigafaaGreatDoor
