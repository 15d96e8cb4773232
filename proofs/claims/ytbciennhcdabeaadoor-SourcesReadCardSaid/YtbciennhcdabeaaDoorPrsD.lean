/-
  A code read back, plain: numbers as decimals, both ways; a line; the whole.
-/
import Derived.Test.YtbciennhcdabeaaDoorPrsC
namespace Go.Proofs.YtbciennhcdabeaaDoor
set_option linter.unusedVariables false
set_option linter.unusedSimpArgs false
open Go.ChangeShapes Go.WideShapes Go.ChangeAt Go.RowKit

def ilB (l : List UInt8) : List Int := l.map fun b => (b.toNat : Int)
def digsB (l : List UInt8) : Prop := ∀ b ∈ l, 48 ≤ b.toNat ∧ b.toNat ≤ 57
theorem dec_small {u : Nat} (h : u < 10) : Lib.decDigits u = [UInt8.ofNat (48 + u)] := by rw [Lib.decDigits, dif_pos h]
theorem dec_big {u : Nat} (h : ¬ u < 10) : Lib.decDigits u = Lib.decDigits (u / 10) ++ [UInt8.ofNat (48 + u % 10)] := by rw [Lib.decDigits, dif_neg h]
theorem dig_nat {u : Nat} (h : u < 10) : (UInt8.ofNat (48 + u)).toNat = 48 + u := by rw [UInt8.toNat_ofNat']; omega
theorem dec_digs (u : Nat) : digsB (Lib.decDigits u) := by
  induction u using Nat.strongRecOn with
  | _ u ih =>
    by_cases h : u < 10
    · rw [dec_small h]
      intro b hb
      simp at hb
      subst hb
      have := dig_nat h
      simp at this ⊢
      omega
    · rw [dec_big h]
      intro b hb
      rcases List.mem_append.1 hb with hb | hb
      · exact ih _ (by omega) b hb
      · have e : b = UInt8.ofNat (48 + u % 10) := by simpa using hb
        rw [e, dig_nat (by omega)]
        omega
theorem dec_ne (u : Nat) : Lib.decDigits u ≠ [] := by
  by_cases h : u < 10
  · rw [dec_small h]; simp
  · rw [dec_big h]; simp
theorem dec_val (u : Nat) : dval (ilB (Lib.decDigits u)) = u := by
  induction u using Nat.strongRecOn with
  | _ u ih =>
    by_cases h : u < 10
    · rw [dec_small h]
      show 10 * 0 + (((UInt8.ofNat (48 + u)).toNat : Int) - 48) = u
      rw [dig_nat h]
      omega
    · rw [dec_big h]
      unfold ilB
      rw [List.map_append, List.map_singleton, dval_snoc, dig_nat (by omega)]
      have := ih (u / 10) (by omega)
      unfold ilB at this
      rw [this]
      omega
theorem dec_head (u : Nat) (h : 1 ≤ u) : ∃ b r, Lib.decDigits u = b :: r ∧ b.toNat ≠ 48 := by
  induction u using Nat.strongRecOn with
  | _ u ih =>
    by_cases h1 : u < 10
    · rw [dec_small h1]
      exact ⟨_, _, rfl, by rw [dig_nat h1]; omega⟩
    · rw [dec_big h1]
      obtain ⟨b, r, e, hb⟩ := ih (u / 10) (by omega) (by omega)
      exact ⟨b, _, by rw [e]; rfl, hb⟩
theorem ilB_digs {l : List UInt8} : (ilB l).all digB = true ↔ digsB l := by
  unfold ilB digsB
  rw [List.all_eq_true]
  constructor
  · intro h b hb
    have := (digB_iff _).1 (h _ (List.mem_map_of_mem hb))
    omega
  · intro h x hx
    obtain ⟨b, hb, rfl⟩ := List.mem_map.1 hx
    have := h b hb
    exact (digB_iff _).2 (by omega)
theorem ilB_len (l : List UInt8) : (ilB l).length = l.length := by simp [ilB]
theorem dcm_dec (u : Nat) (h : u < 10000) (most : Int) (hm : (u : Int) ≤ most) : dcm (ilB (Lib.decDigits u)) most = ((u : Int), 0) := by
  have hl := dec_len u h
  have h0 : 0 < (Lib.decDigits u).length := by
    rcases hd : Lib.decDigits u with _ | ⟨b, r⟩
    · exact absurd hd (dec_ne u)
    · simp
  have hb : dcmBad (ilB (Lib.decDigits u)) = false := by
    unfold dcmBad
    rw [ilB_digs.2 (dec_digs u), ilB_len, decide_eq_true (show 1 ≤ ((Lib.decDigits u).length : Int) ∧ ((Lib.decDigits u).length : Int) ≤ 6 by omega)]
    by_cases h2 : u = 0
    · subst h2; rw [dec_small (by decide)]; rfl
    · obtain ⟨b, r, e, hb⟩ := dec_head u (by omega)
      have h3 : (ilB (Lib.decDigits u)).headD 0 = (b.toNat : Int) := by rw [e]; rfl
      rw [h3, (beq_eq_false_iff_ne).2 (show (b.toNat : Int) ≠ 48 by omega), Bool.and_false]
      rfl
  unfold dcm
  rw [hb, dec_val, if_neg (by decide), if_neg (by omega)]
theorem snoc_ind {α : Type} {P : List α → Prop} (h0 : P []) (h1 : ∀ r x, P r → P (r ++ [x])) : ∀ (k : Nat) (l : List α), l.length = k → P l
  | 0, l, h => by rw [List.length_eq_zero_iff.1 h]; exact h0
  | k + 1, l, h => by
    rcases List.eq_nil_or_concat l with rfl | ⟨r, b, rfl⟩
    · exact h0
    · rw [List.concat_eq_append] at h ⊢
      exact h1 r b (snoc_ind h0 h1 k r (by simpa using h))
theorem dval_pos : ∀ (r : List UInt8), digsB r → (∃ b l, r = b :: l ∧ b.toNat ≠ 48) → 1 ≤ dval (ilB r) := by
  intro r
  refine snoc_ind (P := fun r => digsB r → (∃ b l, r = b :: l ∧ b.toNat ≠ 48) → 1 ≤ dval (ilB r)) ?_ ?_ _ r rfl
  · rintro _ ⟨b, l, e, _⟩; cases e
  · intro r x ih hd ⟨b, l, e, hb⟩
    have hx := hd x (by simp)
    unfold ilB
    rw [List.map_append, List.map_singleton, dval_snoc]
    rcases r with _ | ⟨c, r⟩
    · simp at e
      obtain ⟨rfl, _⟩ := e
      show 1 ≤ 10 * 0 + ((x.toNat : Int) - 48)
      omega
    · simp at e
      obtain ⟨rfl, _⟩ := e
      have := ih (fun y hy => hd y (List.mem_append_left _ hy)) ⟨c, r, rfl, hb⟩
      unfold ilB at this
      omega
theorem dec_of : ∀ (n : List UInt8), digsB n → n ≠ [] → (1 < n.length → n.head?.map (·.toNat) ≠ some 48) → n = Lib.decDigits (dval (ilB n)).toNat := by
  intro n
  refine snoc_ind (P := fun n => digsB n → n ≠ [] → (1 < n.length → n.head?.map (·.toNat) ≠ some 48) → n = Lib.decDigits (dval (ilB n)).toNat) ?_ ?_ _ n rfl
  · intro _ h; exact absurd rfl h
  · intro r x ih hd _ hh
    have hx := hd x (by simp)
    have ev : dval (ilB (r ++ [x])) = 10 * dval (ilB r) + ((x.toNat : Int) - 48) := by
      unfold ilB
      rw [List.map_append, List.map_singleton, dval_snoc]
    have ex : UInt8.ofNat (48 + (x.toNat - 48)) = x := by
      apply UInt8.toNat_inj.1
      rw [dig_nat (by omega)]
      omega
    rcases r with _ | ⟨c, r⟩
    · have : (dval (ilB [x])).toNat = x.toNat - 48 := by
        show ((10 * 0 + ((x.toNat : Int) - 48)) : Int).toNat = _
        omega
      show [x] = Lib.decDigits (dval (ilB [x])).toNat
      rw [this, dec_small (by omega), ex]
    · have hr : digsB (c :: r) := fun y hy => hd y (List.mem_append_left _ hy)
      have hc : c.toNat ≠ 48 := fun e => hh (by simp) (by simp [e])
      have hp := dval_pos (c :: r) hr ⟨c, r, rfl, hc⟩
      have hi := ih hr (by simp) (fun _ => by simpa using hc)
      have hv : (dval (ilB (c :: r ++ [x]))).toNat = 10 * (dval (ilB (c :: r))).toNat + (x.toNat - 48) := by rw [ev]; omega
      rw [hv, dec_big (by omega)]
      rw [show (10 * (dval (ilB (c :: r))).toNat + (x.toNat - 48)) / 10 = (dval (ilB (c :: r))).toNat by omega, ← hi, show (10 * (dval (ilB (c :: r))).toNat + (x.toNat - 48)) % 10 = x.toNat - 48 by omega, ex]
theorem parse_snoc (b : UInt8) (hb : 48 ≤ b.toNat ∧ b.toNat ≤ 57) : ∀ (l : List UInt8) (acc v : Nat), Lib.parseUint10 acc l = .ok v → v < 1000000 → Lib.parseUint10 acc (l ++ [b]) = .ok (v * 10 + (b.toNat - 48))
  | [], acc, v, h, hv => by
    simp only [Lib.parseUint10] at h
    injection h with h
    subst h
    show (if 48 ≤ b.toNat ∧ b.toNat ≤ 57 then _ else _) = _
    rw [if_pos hb, if_neg (by omega), if_neg (by omega)]
    rfl
  | c :: l, acc, v, h, hv => by
    simp only [Lib.parseUint10, List.cons_append] at h ⊢
    split at h
    · rename_i h1
      rw [if_pos h1]
      split at h
      · cases h
      · rename_i h2
        rw [if_neg h2]
        split at h
        · cases h
        · rename_i h3
          rw [if_neg h3]
          exact parse_snoc b hb l _ v h hv
    · cases h
theorem parse_dec (u : Nat) (h : u < 1000000) : Lib.parseUint10 0 (Lib.decDigits u) = .ok u := by
  induction u using Nat.strongRecOn with
  | _ u ih =>
    by_cases h1 : u < 10
    · rw [dec_small h1]
      have := parse_snoc (UInt8.ofNat (48 + u)) (by rw [dig_nat h1]; omega) [] 0 0 rfl (by omega)
      rw [dig_nat h1] at this
      rw [show [] ++ [UInt8.ofNat (48 + u)] = [UInt8.ofNat (48 + u)] from rfl] at this
      rw [this]
      congr 1
      omega
    · rw [dec_big h1]
      have hx : (UInt8.ofNat (48 + u % 10)).toNat = 48 + u % 10 := dig_nat (by omega)
      have := parse_snoc (UInt8.ofNat (48 + u % 10)) (by rw [hx]; omega) _ 0 _ (ih (u / 10) (by omega) (by omega)) (by omega)
      rw [hx] at this
      rw [this]
      congr 1
      omega
theorem atoi_dec (u : Nat) (h : u < 1000000) : Lib.atoiAll (Lib.decDigits u) = .ok (u : Int) := by
  have hp := parse_dec u h
  have hd := dec_digs u
  rcases hl : Lib.decDigits u with _ | ⟨c, r⟩
  · exact absurd hl (dec_ne u)
  · rw [hl] at hp hd
    have hc := hd c (by simp)
    have h43 : ¬ (c.toNat = 43 ∨ c.toNat = 45) := by omega
    unfold Lib.atoiAll
    dsimp only
    rw [if_neg h43]
    unfold Lib.parseMag
    rw [if_neg (List.cons_ne_nil _ _), hp]
    dsimp only
    rw [if_neg (by omega), if_neg (by omega), if_neg (by omega)]
/-- what the code takes as a number. -/
def numC (n : List UInt8) : Option Int := match Lib.atoiAll n with
  | .ok k => if Lib.itoa k = n ∧ 0 ≤ k ∧ k ≤ 8000 then some k else none
  | _ => none
theorem num_dcm (n : List UInt8) : numC n = if (dcm (ilB n) 8000).2 = 0 then some (dcm (ilB n) 8000).1 else none := by
  by_cases h : (dcm (ilB n) 8000).2 = 0
  · rw [if_pos h]
    unfold dcm at h
    split at h
    · cases h
    · rename_i h1
      split at h
      · cases h
      · rename_i h2
        have h1' : dcmBad (ilB n) = false := by simpa using h1
        unfold dcmBad at h1'
        simp only [Bool.or_eq_false_iff, Bool.not_eq_false', decide_eq_true_eq, Bool.and_eq_false_iff, decide_eq_false_iff_not, beq_eq_false_iff_ne, ilB_len] at h1'
        obtain ⟨a1, a2, a3⟩ := h1'
        have hd := ilB_digs.1 a2
        have hn : n ≠ [] := by rintro rfl; simp at a1
        have hv := (dval_lt 6 (ilB n) (by rw [ilB_len]; omega) fun b hb => (digB_iff _).1 (List.all_eq_true.1 a2 b hb)).1
        have he := dec_of n hd hn (fun hl e => by
          rcases a3 with a3 | a3
          · exact a3 hl
          · rcases n with _ | ⟨c, r⟩
            · exact hn rfl
            · simp at e
              exact a3 (by show (c.toNat : Int) = 48; omega))
        have hat := atoi_dec (dval (ilB n)).toNat (by omega)
        rw [← he] at hat
        have e2 : (((dval (ilB n)).toNat : Nat) : Int) = dval (ilB n) := by omega
        rw [e2] at hat
        have hit : Lib.itoa (dval (ilB n)) = n := by
          have := Lib.itoa_nonneg (dval (ilB n)).toNat
          rw [e2, ← he] at this
          exact this
        unfold numC dcm
        rw [hat, if_neg h1, if_neg h2]
        show (if Lib.itoa (dval (ilB n)) = n ∧ 0 ≤ dval (ilB n) ∧ dval (ilB n) ≤ 8000 then some (dval (ilB n)) else none) = some (dval (ilB n))
        rw [if_pos ⟨hit, hv, by omega⟩]
  · rw [if_neg h]
    unfold numC
    split
    · rename_i k hk
      rw [if_neg]
      rintro ⟨h1, h2, h3⟩
      apply h
      obtain ⟨u, rfl⟩ : ∃ u : Nat, k = u := ⟨k.toNat, by omega⟩
      rw [Lib.itoa_nonneg] at h1
      rw [← h1, dcm_dec u (by omega) 8000 h3]
    · rfl
/-- a line's instruction, by its pieces: (fault, instruction). -/
def lineS (l : List UInt8) : Int × Ins :=
  if opOf ((splB 32 [] l).headD []) = 0 then (3, ⟨0, 0⟩)
  else if barT (opOf ((splB 32 [] l).headD [])) then (if (splB 32 [] l).length = 1 then (0, ⟨opOf ((splB 32 [] l).headD []), 0⟩) else (4, ⟨0, 0⟩))
  else if (splB 32 [] l).length = 2 then (if (dcm (ilB ((splB 32 [] l).getD 1 [])) 8000).2 = 0 then (0, ⟨opOf ((splB 32 [] l).headD []), (dcm (ilB ((splB 32 [] l).getD 1 [])) 8000).1⟩) else (4, ⟨0, 0⟩))
  else (4, ⟨0, 0⟩)
/-- the same, as the code goes. -/
def lineC (l : List UInt8) : Int × Ins :=
  if opOf (cutB 32 l).1 = 0 then (3, ⟨0, 0⟩)
  else if (cutB 32 l).2.2 = barT (opOf (cutB 32 l).1) then (4, ⟨0, 0⟩)
  else if (cutB 32 l).2.2 then (match numC (cutB 32 l).2.1 with | some k => (0, ⟨opOf (cutB 32 l).1, k⟩) | none => (4, ⟨0, 0⟩))
  else (0, ⟨opOf (cutB 32 l).1, 0⟩)
theorem dcm_blank (n : List UInt8) (h : 32 ∈ n) : (dcm (ilB n) 8000).2 ≠ 0 := by
  have hb : dcmBad (ilB n) = true := by
    unfold dcmBad
    have : (ilB n).all digB = false := by
      rw [← Bool.not_eq_true, ilB_digs]
      intro hd
      have := hd 32 h
      exact absurd this (by decide)
    rw [this]
    simp
  unfold dcm
  rw [hb, if_pos rfl]
  decide
theorem line_eq (l : List UInt8) : lineS l = lineC l := by
  have e := spl_cut 32 l []
  unfold lineS lineC
  rw [e]
  rcases h : (cutB 32 l).2.2 with _ | _
  · simp only [Bool.false_eq_true, if_false, List.nil_append, List.headD_cons, List.length_singleton]
    by_cases h1 : opOf (cutB 32 l).1 = 0
    · rw [if_pos h1, if_pos h1]
    · rw [if_neg h1, if_neg h1]
      rcases h2 : barT (opOf (cutB 32 l).1) with _ | _
      · simp
      · simp
  · have hl : (splB 32 [] (cutB 32 l).2.1).length = 1 ↔ 32 ∉ (cutB 32 l).2.1 := by
      rw [spl_cut, ← cutB_mem]
      rcases h3 : (cutB 32 (cutB 32 l).2.1).2.2 with _ | _
      · simp
      · simp only [if_true, List.length_cons, Nat.add_eq_right, not_true_eq_false, iff_false]
        exact fun e => spl_ne 32 [] _ (List.length_eq_zero_iff.1 e)
    simp only [if_true, List.nil_append, List.headD_cons, List.length_cons, List.getD_cons_succ]
    by_cases h1 : opOf (cutB 32 l).1 = 0
    · rw [if_pos h1, if_pos h1]
    · rw [if_neg h1, if_neg h1]
      have hne : (splB 32 [] (cutB 32 l).2.1).length ≠ 0 := fun e => spl_ne 32 [] _ (List.length_eq_zero_iff.1 e)
      have h6 : 32 ∉ (cutB 32 l).2.1 → (splB 32 [] (cutB 32 l).2.1).getD 0 [] = (cutB 32 l).2.1 := fun h4 => by
        rw [spl_cut]
        have h7 : (cutB 32 (cutB 32 l).2.1).2.2 = false := by rw [← Bool.not_eq_true, cutB_mem]; exact h4
        rw [h7, cutB_none 32 _ h7]
        rfl
      generalize (splB 32 [] (cutB 32 l).2.1).length = N at *
      generalize (splB 32 [] (cutB 32 l).2.1).getD 0 [] = G at *
      rcases h2 : barT (opOf (cutB 32 l).1) with _ | _
      · rw [if_neg (show ¬ (false = true) by decide), if_neg (show ¬ (true = false) by decide), num_dcm]
        by_cases h4 : 32 ∈ (cutB 32 l).2.1
        · have h5 : ¬ N + 1 = 2 := fun e => hl.1 (by omega) h4
          rw [if_neg h5, if_neg (dcm_blank _ h4)]
        · have h5 : N + 1 = 2 := by have := hl.2 h4; omega
          rw [if_pos h5, h6 h4]
          by_cases h8 : (dcm (ilB (cutB 32 l).2.1) 8000).2 = 0
          · rw [if_pos h8, if_pos h8]
          · rw [if_neg h8, if_neg h8]
      · have h5 : ¬ N + 1 = 1 := by omega
        rw [if_pos rfl, if_neg h5, if_pos rfl]
/-- the whole, by lines. -/
def prsL : List (List UInt8) → List Ins → Nat → List Ins × Int × Int
  | [], _, _ => ([], 0, 0)
  | [p], out, line => if p = [] then (out, 0, 0) else ([], line, 5)
  | p :: q :: r, out, line => if 8000 ≤ out.length then ([], line, 1) else if (lineS p).1 = 0 then prsL (q :: r) (out ++ [(lineS p).2]) (line + 1) else ([], line, (lineS p).1)
def prsA (s : List UInt8) : List Ins × Int × Int := if 200000 < s.length then ([], 0, 1) else prsL (splB 10 [] s) [] 1
end Go.Proofs.YtbciennhcdabeaaDoor
