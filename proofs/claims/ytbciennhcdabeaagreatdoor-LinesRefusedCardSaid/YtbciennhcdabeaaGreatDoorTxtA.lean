/-
  A code's text: plain; sundialref.dec and opName; the lines.
-/
import Derived.Lib.ItoaMem
import Derived.Lib.ItoaLen
import Derived.Test.YtbciennhcdabeaaGreatDoorNam
import Derived.Test.YtbciennhcdabeaaGreatDoorBld
namespace Go.Proofs.YtbciennhcdabeaaGreatDoor
set_option linter.unusedVariables false
set_option linter.unusedSimpArgs false
open Go.ChangeShapes Go.WideShapes Go.ChangeAt Go.RowKit

def barT (op : Int) : Bool := op == 1 || op == 3
/-- the text of one instruction. -/
def linB (x : Ins) : List UInt8 := nmS.getD x.op.toNat [] ++ ((if barT x.op then [] else 32 :: Lib.itoa x.n) ++ [10])
def insT (x : Ins) : Int := if x.op < 1 ∨ 6 < x.op then 3 else if x.n < 0 ∨ 8000 < x.n ∨ (barT x.op = true ∧ x.n ≠ 0) then 2 else 0
def txtF : List Ins → Int
  | [] => 0
  | x :: l => if insT x = 0 then txtF l else insT x
def txtB (l : List Ins) : List UInt8 := l.flatMap linB
def txtE (l : List Ins) : Int := if 8000 < l.length then 1 else txtF l
def txtS (l : List Ins) : List UInt8 := if txtE l = 0 then txtB l else []
theorem txtF_at : ∀ (l : List Ins) (k : Nat) (hk : k < l.length), (∀ i (hi : i < l.length), i < k → insT l[i] = 0) → insT l[k] ≠ 0 → txtF l = insT l[k]
  | [], k, hk, _, _ => by simp at hk
  | x :: l, 0, _, _, h => by show (if insT x = 0 then _ else _) = _; exact if_neg h
  | x :: l, k + 1, hk, h, h' => by
    show (if insT x = 0 then _ else _) = _
    have h0 : insT x = 0 := h 0 (by simp) (by omega)
    rw [if_pos h0]
    exact txtF_at l k (by simpa using hk) (fun i hi hik => h (i + 1) (by simpa using hi) (by omega)) h'
theorem txtF_none : ∀ (l : List Ins), (∀ i (hi : i < l.length), insT l[i] = 0) → txtF l = 0
  | [], _ => rfl
  | x :: l, h => by
    show (if insT x = 0 then _ else _) = _
    rw [if_pos (show insT x = 0 from h 0 (by simp))]
    exact txtF_none l fun i hi => h (i + 1) (by simpa using hi)
theorem dec_len : ∀ u : Nat, u < 10000 → (Lib.decDigits u).length ≤ 4 := by
  intro u hu
  rw [Lib.decDigits_eq, List.length_map, List.length_range]
  by_cases h0 : u = 0
  · subst h0; rw [Lib.nDigits_small (by decide)]; decide
  · rcases Nat.lt_or_ge u 10 with a | a
    · rw [Lib.nDigits_small a]; decide
    · rcases Nat.lt_or_ge u 100 with b | b
      · rw [Lib.nDigits_unique 1 u (by omega) (by omega)]; decide
      · rcases Nat.lt_or_ge u 1000 with c | c
        · rw [Lib.nDigits_unique 2 u (by omega) (by omega)]; decide
        · rw [Lib.nDigits_unique 3 u (by omega) (by omega)]; decide
theorem ins_name {x : Ins} (h : insT x = 0) : 1 ≤ x.op ∧ x.op ≤ 6 ∧ 0 ≤ x.n ∧ x.n ≤ 8000 ∧ (barT x.op = true → x.n = 0) := by
  unfold insT at h
  split at h
  · cases h
  · split at h
    · cases h
    · rename_i a b
      refine ⟨by omega, by omega, by omega, by omega, fun hb => ?_⟩
      rcases Decidable.em (x.n = 0) with e | e
      · exact e
      · exact absurd (.inr (.inr ⟨hb, e⟩)) b
theorem lin_len {x : Ins} (h : insT x = 0) : (linB x).length ≤ 11 := by
  obtain ⟨a, b, c, d, _⟩ := ins_name h
  have h1 : (nmS.getD x.op.toNat []).length ≤ 5 := by
    have : ∀ i : Nat, i < 7 → (nmS.getD i []).length ≤ 5 := by decide
    exact this _ (by omega)
  have h2 : (Lib.itoa x.n).length ≤ 4 := by
    obtain ⟨u, hu⟩ : ∃ u : Nat, x.n = u := ⟨x.n.toNat, by omega⟩
    rw [hu, Lib.itoa_nonneg]
    exact dec_len u (by omega)
  unfold linB
  rw [List.length_append, List.length_append]
  split
  · rw [List.length_nil, List.length_singleton]; omega
  · rw [List.length_cons, List.length_singleton]; omega
theorem txtB_snoc (l : List Ins) (k : Nat) (hk : k < l.length) : txtB (l.take (k + 1)) = txtB (l.take k) ++ linB l[k] := by
  unfold txtB
  rw [List.take_succ_eq_append_getElem hk, List.flatMap_append]
  simp
theorem txtB_len : ∀ (l : List Ins), (∀ i (hi : i < l.length), insT l[i] = 0) → (txtB l).length ≤ 11 * l.length
  | [], _ => by simp [txtB]
  | x :: l, h => by
    have h1 := lin_len (h 0 (by simp))
    have h2 := txtB_len l fun i hi => h (i + 1) (by simpa using hi)
    unfold txtB at *
    rw [List.flatMap_cons, List.length_append, List.length_cons]
    have h3 : (linB ((x :: l)[0])).length = (linB x).length := rfl
    omega
end Go.Proofs.YtbciennhcdabeaaGreatDoor
