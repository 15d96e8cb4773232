/-
  A code's text, read back: plain.
-/
import Derived.Test.YtlhidbbphngpcaaDoorPrsF
namespace Go.Proofs.YtlhidbbphngpcaaDoor
set_option linter.unusedVariables false
set_option linter.unusedSimpArgs false
open Go.ChangeShapes Go.WideShapes Go.ChangeAt Go.RowKit

theorem cutB_app (c : UInt8) : ∀ (a b : List UInt8), c ∉ a → cutB c (a ++ c :: b) = (a, b, true)
  | [], b, _ => by simp [cutB]
  | x :: a, b, h => by
    have h1 : ¬ x = c := fun e => h (by simp [e])
    have h2 : c ∉ a := fun m => h (List.mem_cons_of_mem _ m)
    show (if x = c then ([], a ++ c :: b, true) else (x :: (cutB c (a ++ c :: b)).1, (cutB c (a ++ c :: b)).2.1, (cutB c (a ++ c :: b)).2.2)) = _
    rw [if_neg h1, cutB_app c a b h2]
theorem cutB_not (c : UInt8) (a : List UInt8) (h : c ∉ a) : cutB c a = (a, [], false) := by
  apply cutB_none
  rw [← Bool.not_eq_true, cutB_mem]
  exact h
def bodB (x : Ins) : List UInt8 := nmS.getD x.op.toNat [] ++ (if barT x.op then [] else 32 :: Lib.itoa x.n)
theorem lin_bod (x : Ins) : linB x = bodB x ++ [10] := by
  unfold linB bodB
  rw [List.append_assoc]
theorem itoa_dec {n : Int} (h0 : 0 ≤ n) : Lib.itoa n = Lib.decDigits n.toNat := by
  obtain ⟨u, rfl⟩ : ∃ u : Nat, n = u := ⟨n.toNat, by omega⟩
  rw [Lib.itoa_nonneg]
  rfl
theorem dec_no {c : UInt8} (hc : c.toNat < 48) (u : Nat) : c ∉ Lib.decDigits u := fun h => by
  have := dec_digs u c h
  omega
theorem nm_no (c : UInt8) (hc : c.toNat < 48) : ∀ i : Nat, c ∉ nmS.getD i [] := by
  have h : ∀ i : Nat, ∀ b ∈ nmS.getD i [], 48 ≤ b.toNat := by
    intro i
    match i with
    | 0 => decide
    | 1 => decide
    | 2 => decide
    | 3 => decide
    | 4 => decide
    | 5 => decide
    | 6 => decide
    | n + 7 => intro b hb; simp [nmS] at hb
  intro i hm
  have := h i c hm
  omega
theorem bod_no {x : Ins} (h : insT x = 0) : (10 : UInt8) ∉ bodB x := by
  obtain ⟨a, b, c, d, _⟩ := ins_name h
  unfold bodB
  intro hm
  rcases List.mem_append.1 hm with hm | hm
  · exact nm_no 10 (by decide) _ hm
  · split at hm
    · cases hm
    · rw [itoa_dec c] at hm
      rcases List.mem_cons.1 hm with e | hm
      · exact absurd e (by decide)
      · exact dec_no (by decide) _ hm
theorem num_itoa {n : Int} (h0 : 0 ≤ n) (h1 : n ≤ 8000) : numC (Lib.itoa n) = some n := by
  rw [itoa_dec h0, num_dcm, dcm_dec n.toNat (by omega) 8000 (by omega), if_pos rfl]
  congr 1
  omega
theorem bod_line {x : Ins} (h : insT x = 0) : lineC (bodB x) = (0, x) := by
  obtain ⟨a, b, c, d, e⟩ := ins_name h
  have hop : opOf (nmS.getD x.op.toNat []) = x.op := by
    have hx : x.op = 1 ∨ x.op = 2 ∨ x.op = 3 ∨ x.op = 4 ∨ x.op = 5 ∨ x.op = 6 := by omega
    rcases hx with e | e | e | e | e | e <;> rw [e] <;> decide
  rcases hb : barT x.op with _ | _
  · have hc : cutB 32 (bodB x) = (nmS.getD x.op.toNat [], Lib.itoa x.n, true) := by
      unfold bodB
      rw [hb]
      exact cutB_app 32 _ _ (nm_no 32 (by decide) _)
    rw [lineC_D, hc]
    show lineD (opOf (nmS.getD x.op.toNat [])) true (Lib.itoa x.n) = _
    rw [hop]
    unfold lineD
    rw [if_neg (by omega), hb, if_neg (by decide), if_pos rfl, num_itoa c d]
  · have hc : cutB 32 (bodB x) = (nmS.getD x.op.toNat [], [], false) := by
      unfold bodB
      rw [hb, if_pos rfl, List.append_nil]
      exact cutB_not 32 _ (nm_no 32 (by decide) _)
    rw [lineC_D, hc]
    show lineD (opOf (nmS.getD x.op.toNat [])) false [] = _
    rw [hop]
    unfold lineD
    rw [if_neg (by omega), hb, if_neg (by decide), if_neg (by decide)]
    have := e hb
    cases x
    simp only at this
    rw [this]
theorem txt_back (S : List UInt8) : ∀ (l acc : List Ins) (k : Nat), (∀ x ∈ l, insT x = 0) → acc.length + l.length ≤ 8000 → prsL (splB 10 [] (txtB l ++ S)) acc k = prsL (splB 10 [] S) (acc ++ l) (k + l.length)
  | [], acc, k, _, _ => by simp [txtB]
  | x :: l, acc, k, h, hl => by
    have hx := h x (by simp)
    have e : txtB (x :: l) ++ S = bodB x ++ 10 :: (txtB l ++ S) := by
      unfold txtB
      rw [List.flatMap_cons, lin_bod]
      simp
    have hc := cutB_app 10 (bodB x) (txtB l ++ S) (bod_no hx)
    rw [List.length_cons] at hl
    rw [e, prsL_step (by rw [hc]), hc]
    simp only
    rw [if_neg (by omega), bod_line hx, if_pos rfl, txt_back S l (acc ++ [x]) (k + 1) (fun y hy => h y (List.mem_cons_of_mem _ hy)) (by rw [List.length_append, List.length_singleton]; omega)]
    simp only [List.append_assoc, List.singleton_append, List.length_cons]
    congr 1
    omega
theorem txtB_size (l : List Ins) (h : ∀ x ∈ l, insT x = 0) (hl : l.length ≤ 8000) : (txtB l).length ≤ 88000 := by
  have := txtB_len l fun i hi => h _ (List.getElem_mem hi)
  omega
theorem txt_all (l : List Ins) (h : ∀ x ∈ l, insT x = 0) (hl : l.length ≤ 8000) : prsA (txtB l) = (l, 0, 0) := by
  have h1 := txtB_size l h hl
  have h2 := txt_back [] l [] 1 h (by simpa using hl)
  unfold prsA
  rw [if_neg (by omega)]
  rw [List.append_nil] at h2
  rw [h2]
  rfl
theorem txt_what (l : List Ins) (h : ∀ x ∈ l, insT x = 0) (hl : l.length < 8000) : prsA (txtB l ++ [119, 104, 97, 116, 10]) = ([], ((l.length + 1 : Nat) : Int), 3) := by
  have h1 := txtB_size l h (by omega)
  have h2 := txt_back [119, 104, 97, 116, 10] l [] 1 h (by simp; omega)
  unfold prsA
  rw [if_neg (by rw [List.length_append]; simp; omega), h2, List.nil_append, prsL_step (by decide), if_neg (by omega)]
  rw [show lineC (cutB 10 [119, 104, 97, 116, 10]).1 = (3, ⟨0, 0⟩) by rfl, if_neg (by decide), Nat.add_comm]
theorem txt_arg (l : List Ins) (h : ∀ x ∈ l, insT x = 0) (hl : l.length < 8000) : prsA (txtB l ++ [97, 114, 103]) = ([], ((l.length + 1 : Nat) : Int), 5) := by
  have h1 := txtB_size l h (by omega)
  have h2 := txt_back [97, 114, 103] l [] 1 h (by simp; omega)
  unfold prsA
  rw [if_neg (by rw [List.length_append]; simp; omega), h2, List.nil_append, prsL_short (by decide) (by decide), Nat.add_comm]
theorem txt_ok (l : List Ins) (h : ∀ x ∈ l, insT x = 0) (hl : l.length ≤ 8000) : txtE l = 0 ∧ txtS l = txtB l := by
  have h1 : txtF l = 0 := txtF_none l fun i hi => h _ (List.getElem_mem hi)
  have h2 : txtE l = 0 := by unfold txtE; rw [if_neg (by omega), h1]
  exact ⟨h2, by unfold txtS; rw [if_pos h2]⟩
end Go.Proofs.YtlhidbbphngpcaaDoor
