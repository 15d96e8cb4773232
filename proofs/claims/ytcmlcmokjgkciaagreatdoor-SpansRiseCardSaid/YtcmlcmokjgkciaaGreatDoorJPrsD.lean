/-
  A code read back, plain: numbers as decimals, both ways; a line; the whole.
-/
import Derived.Test.YtcmlcmokjgkciaaGreatDoorJShTxt
namespace Go.Proofs.YtcmlcmokjgkciaaGreatDoor
set_option linter.unusedVariables false
set_option linter.unusedSimpArgs false
open Go.ChangeShapes Go.WideShapes Go.ChangeAt Go.RowKit

def ilB (l : List UInt8) : List Int := l.map fun b => (b.toNat : Int)
def digsB (l : List UInt8) : Prop := ∀ b ∈ l, 48 ≤ b.toNat ∧ b.toNat ≤ 57
theorem dec_small {u : Nat} (h : u < 10) : Lib.decDigits u = [UInt8.ofNat (48 + u)] := by rw [Lib.decDigits, dif_pos h]
theorem dec_big {u : Nat} (h : ¬ u < 10) : Lib.decDigits u = Lib.decDigits (u / 10) ++ [UInt8.ofNat (48 + u % 10)] := by rw [Lib.decDigits, dif_neg h]
theorem dig_nat {u : Nat} (h : u < 10) : (UInt8.ofNat (48 + u)).toNat = 48 + u := by rw [UInt8.toNat_ofNat']; omega
theorem dec_digs (u : Nat) : digsB (Lib.decDigits u) := by
  induction u using Nat.strongRecOn with
  | _ u ih =>
    by_cases h : u < 10
    · rw [dec_small h]
      intro b hb
      simp at hb
      subst hb
      have := dig_nat h
      simp at this ⊢
      omega
    · rw [dec_big h]
      intro b hb
      rcases List.mem_append.1 hb with hb | hb
      · exact ih _ (by omega) b hb
      · have e : b = UInt8.ofNat (48 + u % 10) := by simpa using hb
        rw [e, dig_nat (by omega)]
        omega
theorem dec_ne (u : Nat) : Lib.decDigits u ≠ [] := by
  by_cases h : u < 10
  · rw [dec_small h]; simp
  · rw [dec_big h]; simp
theorem ilB_digs {l : List UInt8} : (ilB l).all digB = true ↔ digsB l := by
  unfold ilB digsB
  rw [List.all_eq_true]
  constructor
  · intro h b hb
    have := (digB_iff _).1 (h _ (List.mem_map_of_mem hb))
    omega
  · intro h x hx
    obtain ⟨b, hb, rfl⟩ := List.mem_map.1 hx
    have := h b hb
    exact (digB_iff _).2 (by omega)
theorem ilB_len (l : List UInt8) : (ilB l).length = l.length := by simp [ilB]
theorem snoc_ind {α : Type} {P : List α → Prop} (h0 : P []) (h1 : ∀ r x, P r → P (r ++ [x])) : ∀ (k : Nat) (l : List α), l.length = k → P l
  | 0, l, h => by rw [List.length_eq_zero_iff.1 h]; exact h0
  | k + 1, l, h => by
    rcases List.eq_nil_or_concat l with rfl | ⟨r, b, rfl⟩
    · exact h0
    · rw [List.concat_eq_append] at h ⊢
      exact h1 r b (snoc_ind h0 h1 k r (by simpa using h))
theorem dval_pos : ∀ (r : List UInt8), digsB r → (∃ b l, r = b :: l ∧ b.toNat ≠ 48) → 1 ≤ dval (ilB r) := by
  intro r
  refine snoc_ind (P := fun r => digsB r → (∃ b l, r = b :: l ∧ b.toNat ≠ 48) → 1 ≤ dval (ilB r)) ?_ ?_ _ r rfl
  · rintro _ ⟨b, l, e, _⟩; cases e
  · intro r x ih hd ⟨b, l, e, hb⟩
    have hx := hd x (by simp)
    unfold ilB
    rw [List.map_append, List.map_singleton, dval_snoc]
    rcases r with _ | ⟨c, r⟩
    · simp at e
      obtain ⟨rfl, _⟩ := e
      show 1 ≤ 10 * 0 + ((x.toNat : Int) - 48)
      omega
    · simp at e
      obtain ⟨rfl, _⟩ := e
      have := ih (fun y hy => hd y (List.mem_append_left _ hy)) ⟨c, r, rfl, hb⟩
      unfold ilB at this
      omega
theorem dec_of : ∀ (n : List UInt8), digsB n → n ≠ [] → (1 < n.length → n.head?.map (·.toNat) ≠ some 48) → n = Lib.decDigits (dval (ilB n)).toNat := by
  intro n
  refine snoc_ind (P := fun n => digsB n → n ≠ [] → (1 < n.length → n.head?.map (·.toNat) ≠ some 48) → n = Lib.decDigits (dval (ilB n)).toNat) ?_ ?_ _ n rfl
  · intro _ h; exact absurd rfl h
  · intro r x ih hd _ hh
    have hx := hd x (by simp)
    have ev : dval (ilB (r ++ [x])) = 10 * dval (ilB r) + ((x.toNat : Int) - 48) := by
      unfold ilB
      rw [List.map_append, List.map_singleton, dval_snoc]
    have ex : UInt8.ofNat (48 + (x.toNat - 48)) = x := by
      apply UInt8.toNat_inj.1
      rw [dig_nat (by omega)]
      omega
    rcases r with _ | ⟨c, r⟩
    · have : (dval (ilB [x])).toNat = x.toNat - 48 := by
        show ((10 * 0 + ((x.toNat : Int) - 48)) : Int).toNat = _
        omega
      show [x] = Lib.decDigits (dval (ilB [x])).toNat
      rw [this, dec_small (by omega), ex]
    · have hr : digsB (c :: r) := fun y hy => hd y (List.mem_append_left _ hy)
      have hc : c.toNat ≠ 48 := fun e => hh (by simp) (by simp [e])
      have hp := dval_pos (c :: r) hr ⟨c, r, rfl, hc⟩
      have hi := ih hr (by simp) (fun _ => by simpa using hc)
      have hv : (dval (ilB (c :: r ++ [x]))).toNat = 10 * (dval (ilB (c :: r))).toNat + (x.toNat - 48) := by rw [ev]; omega
      rw [hv, dec_big (by omega)]
      rw [show (10 * (dval (ilB (c :: r))).toNat + (x.toNat - 48)) / 10 = (dval (ilB (c :: r))).toNat by omega, ← hi, show (10 * (dval (ilB (c :: r))).toNat + (x.toNat - 48)) % 10 = x.toNat - 48 by omega, ex]
theorem parse_snoc (b : UInt8) (hb : 48 ≤ b.toNat ∧ b.toNat ≤ 57) : ∀ (l : List UInt8) (acc v : Nat), Lib.parseUint10 acc l = .ok v → v < 1000000 → Lib.parseUint10 acc (l ++ [b]) = .ok (v * 10 + (b.toNat - 48))
  | [], acc, v, h, hv => by
    simp only [Lib.parseUint10] at h
    injection h with h
    subst h
    show (if 48 ≤ b.toNat ∧ b.toNat ≤ 57 then _ else _) = _
    rw [if_pos hb, if_neg (by omega), if_neg (by omega)]
    rfl
  | c :: l, acc, v, h, hv => by
    simp only [Lib.parseUint10, List.cons_append] at h ⊢
    split at h
    · rename_i h1
      rw [if_pos h1]
      split at h
      · cases h
      · rename_i h2
        rw [if_neg h2]
        split at h
        · cases h
        · rename_i h3
          rw [if_neg h3]
          exact parse_snoc b hb l _ v h hv
    · cases h
theorem parse_dec (u : Nat) (h : u < 1000000) : Lib.parseUint10 0 (Lib.decDigits u) = .ok u := by
  induction u using Nat.strongRecOn with
  | _ u ih =>
    by_cases h1 : u < 10
    · rw [dec_small h1]
      have := parse_snoc (UInt8.ofNat (48 + u)) (by rw [dig_nat h1]; omega) [] 0 0 rfl (by omega)
      rw [dig_nat h1] at this
      rw [show [] ++ [UInt8.ofNat (48 + u)] = [UInt8.ofNat (48 + u)] from rfl] at this
      rw [this]
      congr 1
      omega
    · rw [dec_big h1]
      have hx : (UInt8.ofNat (48 + u % 10)).toNat = 48 + u % 10 := dig_nat (by omega)
      have := parse_snoc (UInt8.ofNat (48 + u % 10)) (by rw [hx]; omega) _ 0 _ (ih (u / 10) (by omega) (by omega)) (by omega)
      rw [hx] at this
      rw [this]
      congr 1
      omega
theorem atoi_dec (u : Nat) (h : u < 1000000) : Lib.atoiAll (Lib.decDigits u) = .ok (u : Int) := by
  have hp := parse_dec u h
  have hd := dec_digs u
  rcases hl : Lib.decDigits u with _ | ⟨c, r⟩
  · exact absurd hl (dec_ne u)
  · rw [hl] at hp hd
    have hc := hd c (by simp)
    have h43 : ¬ (c.toNat = 43 ∨ c.toNat = 45) := by omega
    unfold Lib.atoiAll
    dsimp only
    rw [if_neg h43]
    unfold Lib.parseMag
    rw [if_neg (List.cons_ne_nil _ _), hp]
    dsimp only
    rw [if_neg (by omega), if_neg (by omega), if_neg (by omega)]
end Go.Proofs.YtcmlcmokjgkciaaGreatDoor
