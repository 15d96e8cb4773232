/-
  What the functions on letters and names answer.
  What the functions on names answer.
  What plain and signs answer (the parts of a format).
-/
import Derived.Lib.ConvBytes
import Derived.Lib.SmallJoins
import Derived.Lib.Bytealg
import Derived.Laws.Closers25b
import Derived.Test.YtlhidbbphngpcaaDoorTreeA
import Derived.Test.YtlhidbbphngpcaaDoorTreeC
namespace Go.Proofs.YtlhidbbphngpcaaDoor
set_option linter.unusedVariables false
set_option linter.unusedSimpArgs false
open Go.ChangeShapes Go.WideShapes Go.ChangeAt Go.RowKit

def letB (c : Int) : Bool := (decide (97 ≤ c) && decide (c ≤ 122)) || (decide (65 ≤ c) && decide (c ≤ 90))
def digB (c : Int) : Bool := decide (48 ≤ c) && decide (c ≤ 57)
def RByte (cs : List Value) (x : Int) : Prop := cs = [.int .u8 x]
/-- a string's bytes. -/
def bl (s : ByteArray) : List Int := s.data.toList.map fun b => (b.toNat : Int)
theorem bl_len (s : ByteArray) : (bl s).length = s.size := by simp [bl]
theorem slAt_bytes (w : World) (e : TypeId) (s : ByteArray) (h : s.size ≤ maxLen) : SlAt (Lib.bytesWorld w e s) 1 RByte (.slice (some ⟨w.heap.size, 0, none⟩) s.size (grownCap w s.size 0 e)) (bl s) := by
  by_cases h0 : s.size = 0
  · left
    refine ⟨_, _, by rw [h0], ?_⟩
    have := bl_len s
    rw [h0] at this
    exact List.length_eq_zero_iff.1 this
  · right
    refine ⟨w.heap.size, 0, _, by rw [bl_len], by rw [bl_len]; omega, by rw [bl_len]; exact grownCap_ge _ _ _ _, grownCap_le_maxLen _ _ _ _ h, by rw [Lib.bytesWorld_size]; omega, fun i hi => ?_⟩
    rw [bl_len] at hi
    refine ⟨[.int .u8 ((bl s)[i]'(by rw [bl_len]; exact hi))], rfl, rfl, fun j hj => ?_⟩
    obtain rfl : j = 0 := by omega
    have := Lib.bytesWorld_cell w e s i hi
    rw [show 0 + i * 1 + 0 = i by omega, this]
    simp [bl, List.getD, hi]
/-- the cell of element i. -/
theorem byteCell {w : World} {b off : Nat} {xs : List Int} (h4 : ∀ (i : Nat) (h : i < xs.length), ∃ cs : List Value, cs.length = 1 ∧ RByte cs xs[i] ∧ ∀ j, j < 1 → w.cell? ⟨b, off + i * 1 + j, none⟩ = cs[j]?) (i : Nat) (h : i < xs.length) :
    w.cell? ⟨b, off + i, none⟩ = some (.int .u8 xs[i]) ∧ True := by
  obtain ⟨cs, _, rfl, hc⟩ := h4 i h
  have := hc 0 (by omega)
  rw [Nat.mul_one, Nat.add_zero] at this
  exact ⟨this, trivial⟩
set_option maxRecDepth 100000 in
theorem allof_any (p : Int → Bool) (F : Nat) (s : ByteArray) (w : World) (hs : s.size ≤ maxLen) (eg : ∀ args w, (callFunc F args).run Tryd.prog w = .ok (.enter F args) w) (hF : ∀ (x : Int) (w : World), Calls Tryd.prog F #[.int .u8 x] w fun e w' => e = .returned (.bool (p x)) ∧ w = w') :
    Calls Tryd.prog 36 #[.string s, .func (.func F) #[] #[]] w fun e w' => e = .returned (.bool ((bl s).all p)) ∧ w = w' := by
  have HF := Lib.hid hF
  have hs' := maxLen_eq _ hs
  have hb := bl_len s
  have HG : Hid (∀ (k : Nat) (h : k < s.size), (bl s)[k]'(by rw [bl_len s]; exact h) = ((s[k]).toNat : Int)) := fun k h => by simp [bl]; rfl
  have HB := Lib.hid hb
  clear hF hb hs
  go_enter Tryd.func36, Tryd.ntmps36
  go_wp2
  go_loop [5] (fun t => ∃ k : Nat, k ≤ s.size ∧ t = .int .i64 k ∧ Hid (∀ i (hi : i < s.size), i < k → p ((s[i]).toNat : Int) = true)) (fun t => (s.size - intOf t).toNat)
  case atStart => exact ⟨0, by omega, rfl, fun i _ h => by omega⟩
  case round =>
    obtain ⟨k, hk, rfl, hn⟩ := hrel
    by_cases hlt : k < s.size
    · have hlt' : (k : Int) < (s.size : Int) := by omega
      by_cases hp : p ((s[k]).toNat : Int) = true
      · have hn' : Hid (∀ i (hi : i < s.size), i < k + 1 → p ((s[i]).toNat : Int) = true) := fun i hi h => by
          by_cases e : i = k
          · subst e; exact hp
          · exact hn.out i hi (by omega)
        go_wp2_with fail
        refine (HF.out _ _).mono ?_; rintro e w' ⟨rfl, rfl⟩
        go_wp2
        go_round
        case rel => exact ⟨k + 1, by omega, by go_num, hn'⟩
        case measure => simp [intOf]; omega
      · have hp' : p ((s[k]).toNat : Int) = false := by simpa using hp
        have hX : Hid ((bl s).all p = false) := by
          show (bl s).all p = false
          rw [List.all_eq_false]
          exact ⟨_, List.getElem_mem (by rw [HB.out]; exact hlt), by rw [HG.out k hlt, hp']; simp⟩
        clear hp
        go_wp2_with fail
        refine (HF.out _ _).mono ?_; rintro e w' ⟨rfl, rfl⟩
        go_wp2
        go_ret
        exact ⟨ret_bool hX.out.symm, rfl⟩
    · have hX : Hid ((bl s).all p = true) := by
        show (bl s).all p = true
        rw [List.all_eq_true]
        intro x hx
        obtain ⟨i, hi, rfl⟩ := List.mem_iff_getElem.1 hx
        have hi' : i < s.size := by rw [HB.out] at hi; exact hi
        rw [HG.out i hi']
        exact hn.out i hi' (by omega)
      go_wp2
      go_ret
      exact ⟨ret_bool hX.out.symm, rfl⟩
def letsB (s : ByteArray) : Bool := decide ((s.size : Int) ≤ 6) && (bl s).all letB
theorem any_not (p : Int → Bool) (l : List Int) : (l.any fun c => !p c) = !l.all p := by
  induction l with
  | nil => rfl
  | cons x l ih => simp only [List.any_cons, List.all_cons, ih]; cases p x <;> rfl
end Go.Proofs.YtlhidbbphngpcaaDoor
namespace Go.Proofs.YtlhidbbphngpcaaDoor
set_option linter.unusedVariables false
set_option linter.unusedSimpArgs false
open Go.ChangeShapes Go.WideShapes Go.ChangeAt Go.RowKit

theorem isdigit_lit (c : Int) (r : Bool) (w : World) (hr : digB c = r) :
    Calls Tryd.prog 37 #[.int .u8 c] w fun e w' => e = .returned (.bool r) ∧ w = w' := by
  have H := Lib.hid hr.symm
  clear hr
  go_enter Tryd.func37, Tryd.ntmps37
  go_wp2
  all_goals (go_ret; exact ⟨ret_bool (by go_light; rw [H.out]; unfold digB; first | (simp [*]; done) | (simp [*]; omega)), rfl⟩)
set_option maxRecDepth 100000 in
theorem slIndexByte_any (s : ByteArray) (c : Int) (w : World) :
    Calls Tryd.prog 69 #[.string s, .int .u8 c] w fun e w' => e = .returned (.int .i64 (Lib.indexByte s.data.toList c.toNat.toUInt8)) ∧ w = w' := by
  go_enter Tryd.func69, Tryd.ntmps69
  go_wp2
  rw [run_callFunc_extern Tryd.func87 (by kernel_rfl) (by kernel_rfl) (by kernel_rfl) (e := Extern.BytealgIndexByte.indexByte) (by kernel_rfl), Lib.run_indexByteString]
  simp only [Result.andThen]
  rw [Oper.upon_value]
  go_wp2
  go_ret
  exact ⟨rfl, rfl⟩
def sgI (c : Int) : Int := Lib.indexByte [95, 47, 43, 45] c.toNat.toUInt8
def nm1 (c : Int) : Bool := !letB c && !digB c && decide (sgI c < 0)
def nm2 (c : Int) : Bool := letB c || digB c || decide (c = 95) || decide (c = 47) || decide (c = 43) || decide (c = 45)
theorem nm_not (b : UInt8) : nm1 ((b.toNat : Nat) : Int) = !nm2 ((b.toNat : Nat) : Int) := by
  have h : ∀ n : Nat, n < 256 → nm1 (n : Int) = !nm2 (n : Int) := by decide +kernel
  exact h _ b.toNat_lt
theorem nm_any (s : ByteArray) : (bl s).any nm1 = !(bl s).all nm2 := by
  unfold bl
  induction s.data.toList with
  | nil => rfl
  | cons x l ih => simp only [List.map_cons, List.any_cons, List.all_cons, ih, nm_not]; cases nm2 (x.toNat : Int) <;> rfl
def firstB (s : ByteArray) : Int := (bl s).getD 0 0
def nameS (s : ByteArray) : Bool := decide (1 ≤ (s.size : Int) ∧ (s.size : Int) ≤ 20) && letB (firstB s) && (bl s).all nm2
theorem first_at (s : ByteArray) (h : 0 < s.size) : ((s[0]).toNat : Int) = firstB s := by
  unfold firstB
  have h' : 0 < (bl s).length := by rw [bl_len]; exact h
  rw [List.getD_eq_getElem?_getD, List.getElem?_eq_getElem h']
  simp [bl]; rfl
end Go.Proofs.YtlhidbbphngpcaaDoor
namespace Go.Proofs.YtlhidbbphngpcaaDoor
set_option linter.unusedVariables false
set_option linter.unusedSimpArgs false
open Go.ChangeShapes Go.WideShapes Go.ChangeAt Go.RowKit

def sgB (c : Int) : Bool := letB c || digB c || decide (c = 43) || decide (c = 45)
/-- all bytes are signs. -/
def sgS (s : ByteArray) : Bool := (bl s).all sgB
def plS (s : ByteArray) : Bool := decide (0 < (s.size : Int)) && sgS s
end Go.Proofs.YtlhidbbphngpcaaDoor
