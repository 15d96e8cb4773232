/-
  What was read out of bytes is written as these bytes: plain.
-/
import Derived.Test.YtpnmaopompfalaaDecQ
import Derived.Test.YtpnmaopompfalaaEncC
namespace Go.Proofs.Ytpnmaopompfalaa
set_option linter.unusedVariables false
set_option linter.unusedSimpArgs false
open Go.ChangeShapes Go.WideShapes Go.ChangeAt Go.RowKit

theorem zz_unz (N : Nat) : zz (unz N) = N := by
  unfold unz zz
  rcases (show N % 2 = 1 ∨ N % 2 = 0 by omega) with c | c
  · rw [if_pos c, if_pos (by omega)]; omega
  · rw [if_neg (by omega), if_neg (by omega)]; omega
theorem num_inv : ∀ (bs : List Int) (k v : Nat) {x : Int} {r : List Int}, Byt bs → num k v bs = (x, r, 0) → ∃ M, bs = sv M ++ r ∧ x = unz (v + M * 128 ^ k) ∧ (0 < k → 0 < M)
  | [], k, v, x, r, _, h => by
    have := congrArg (fun z => z.2.2) h
    simp [num] at this
  | c :: t, k, v, x, r, hb, h => by
    obtain ⟨hc1, hc2⟩ := hb c List.mem_cons_self
    obtain ⟨cn, rfl⟩ : ∃ cn : Nat, c = cn := ⟨c.toNat, by omega⟩
    rw [num_cons] at h
    by_cases h1 : (k = 9 ∧ 1 < (cn : Int)) ∨ (0 < k ∧ (cn : Int) = 0)
    · rw [if_pos h1] at h
      have := congrArg (fun z => z.2.2) h
      simp at this
    · rw [if_neg h1] at h
      by_cases h2 : (cn : Int) < 128
      · rw [if_pos h2] at h
        cases h
        refine ⟨cn, by rw [sv_small (by omega)]; rfl, rfl, fun hk => ?_⟩
        rcases Nat.eq_zero_or_pos cn with z | z
        · exact absurd (.inr ⟨hk, by omega⟩) h1
        · exact z
      · rw [if_neg h2] at h
        obtain ⟨M, e1, e2, e3⟩ := num_inv t (k + 1) _ (fun x hx => hb x (List.mem_cons_of_mem _ hx)) h
        have hM := e3 (Nat.succ_pos k)
        refine ⟨cn % 128 + M * 128, ?_, ?_, fun _ => by omega⟩
        · rw [sv_big (by omega), e1, show (cn % 128 + M * 128) / 128 = M by omega, show (cn % 128 + M * 128) % 128 + 128 = cn by omega]
          rfl
        · rw [e2]
          congr 1
          rw [Nat.pow_succ, Nat.add_mul, Nat.mul_assoc, Nat.mul_comm 128 (128 ^ k)]
          omega
theorem numE_inv {bs r : List Int} {x e : Int} (hb : Byt bs) (h : numE bs e = (x, r, 0)) : e = 0 ∧ bs = zb x ++ r := by
  by_cases he : e = 0
  · subst he
    rw [numE_ok] at h
    obtain ⟨M, e1, e2, _⟩ := num_inv bs 0 0 hb h
    refine ⟨rfl, ?_⟩
    rw [e1, e2]
    unfold zb
    rw [zz_unz]
    simp
  · rw [numE_err he] at h
    exact absurd (congrArg (fun z => z.2.2) h) he
theorem erE_1 {e x : Int} (hx : x ≠ 0) : erE e x ≠ 0 := by
  unfold erE
  split
  · exact hx
  · assumption
theorem cntE_inv {m : Int} {bs r : List Int} {x e : Int} (hb : Byt bs) (h : cntE m bs e = (x, r, 0)) : e = 0 ∧ bs = zb x ++ r := by
  unfold cntE at h
  split at h
  · exact absurd (congrArg (fun z => z.2.2) h) (erE_1 (by decide))
  · exact numE_inv hb h
theorem tkD_inv {n : Nat} {bs l r : List Int} {e : Int} (h : tkD n bs e = (l, r, 0)) : e = 0 ∧ bs = l ++ r ∧ l.length = n := by
  unfold tkD at h
  split at h
  · rename_i hh
    cases h
    exact ⟨hh.1, (List.take_append_drop n bs).symm, by rw [List.length_take]; omega⟩
  · exact absurd (congrArg (fun z => z.2.2) h) (erE_1 (by decide))
theorem numsD_inv : ∀ (k : Nat) (acc bs : List Int) (e : Int) {l r : List Int}, Byt bs → numsD k acc bs e = (l, r, 0) → e = 0 ∧ ∃ l', l = acc ++ l' ∧ bs = l'.flatMap zb ++ r ∧ l'.length = k
  | 0, acc, bs, e, l, r, hb, h => by
    cases h
    exact ⟨rfl, [], by simp, by simp, rfl⟩
  | k + 1, acc, bs, e, l, r, hb, h => by
    obtain ⟨x, b1, e1, hx⟩ : ∃ x b1 e1, numE bs e = (x, b1, e1) := ⟨_, _, _, rfl⟩
    have hb1 := numE_byt e hb
    rw [hx] at hb1
    have h' : numsD k (acc ++ [x]) b1 e1 = (l, r, 0) := by
      have h0 : numsD k (acc ++ [(numE bs e).1]) (numE bs e).2.1 (numE bs e).2.2 = (l, r, 0) := h
      rw [hx] at h0
      exact h0
    obtain ⟨h1, l', e2, e3, e4⟩ := numsD_inv k (acc ++ [x]) b1 e1 hb1 h'
    subst h1
    obtain ⟨g1, g2⟩ := numE_inv hb hx
    exact ⟨g1, x :: l', by rw [e2]; simp, by rw [g2, e3]; simp, by rw [List.length_cons, e4]⟩
theorem strL_nums {l : List Int} (h : Byt l) : strL (strOfNums l) = l := by
  unfold strL
  rw [strOfNums_data, List.map_map]
  conv => rhs; rw [← List.map_id l]
  refine List.map_congr_left fun c hc => ?_
  obtain ⟨c1, c2⟩ := h c hc
  show ((UInt8.ofNat c.toNat).toNat : Int) = c
  rw [UInt8.toNat_ofNat']
  omega
theorem aD_inv {bs r : List Int} {e : Int} {a : Ans} (hb : Byt bs) (h : aD bs e = (a, r, 0)) : e = 0 ∧ bs = enA a ++ r := by
  obtain ⟨b1, b2, b3, b4, b5, b6, b7, nm, os, o, s, k, m, j, e1, e2, e3, e4, e5, e6, e7, n1, n2, n3, n4, n5, n6, n7, na, ⟨y1, y2, y3, y4, y5, y6, y7, y8⟩, _, ⟨c1, c2, c3, c4⟩, l1, l2⟩ := aD_parts bs e hb
  rw [na] at h
  cases h
  obtain ⟨z6, w7⟩ := numE_inv y6 n7
  subst z6
  obtain ⟨z5, os', q1, w6, _⟩ := numsD_inv _ _ _ _ y5 n6
  subst z5
  obtain ⟨z4, w5⟩ := cntE_inv y4 n5
  subst z4
  obtain ⟨z3, w4, hl⟩ := tkD_inv n4
  subst z3
  obtain ⟨z2, w3⟩ := cntE_inv y2 n3
  have hs : e2 = 0 ∧ (s = 0 ∨ s = 1) := by
    unfold savD at z2
    split at z2
    · exact ⟨z2, by assumption⟩
    · exact absurd z2 (erE_1 (by decide))
  obtain ⟨z2', hs⟩ := hs
  subst z2'
  obtain ⟨z1, w2⟩ := numE_inv y1 n2
  subst z1
  obtain ⟨z0, w1⟩ := numE_inv hb n1
  refine ⟨z0, ?_⟩
  rw [List.nil_append] at q1
  subst q1
  have hsv : savI (s == 1) = s := by
    rcases hs with rfl | rfl
    · rfl
    · rfl
  have hk : ((strOfNums nm).size : Int) = k := by rw [strOfNums_size, hl]; omega
  have hm : ((os.length : Nat) : Int) = m := by rw [l2]; omega
  unfold enA enH
  dsimp only
  rw [hsv, strL_nums y8, hk, hm]
  rw [w1, w2, w3, w4, w5, w6, w7]
  simp only [List.append_assoc]
theorem anssD_inv : ∀ (k : Nat) (acc : List Ans) (bs : List Int) (e : Int) {l : List Ans} {r : List Int}, Byt bs → anssD k acc bs e = (l, r, 0) → e = 0 ∧ ∃ l', l = acc ++ l' ∧ bs = l'.flatMap enA ++ r ∧ l'.length = k
  | 0, acc, bs, e, l, r, hb, h => by
    cases h
    exact ⟨rfl, [], by simp, by simp, rfl⟩
  | k + 1, acc, bs, e, l, r, hb, h => by
    obtain ⟨x, b1, e1, hx⟩ : ∃ x b1 e1, aD bs e = (x, b1, e1) := ⟨_, _, _, rfl⟩
    have hb1 := (aD_ok bs e hb).2
    rw [hx] at hb1
    have h' : anssD k (acc ++ [x]) b1 e1 = (l, r, 0) := by
      have h0 : anssD k (acc ++ [(aD bs e).1]) (aD bs e).2.1 (aD bs e).2.2 = (l, r, 0) := h
      rw [hx] at h0
      exact h0
    obtain ⟨h1, l', e2, e3, e4⟩ := anssD_inv k (acc ++ [x]) b1 e1 hb1 h'
    subst h1
    obtain ⟨g1, g2⟩ := aD_inv hb hx
    exact ⟨g1, x :: l', by rw [e2]; simp, by rw [g2, e3]; simp, by rw [List.length_cons, e4]⟩
theorem codD_inv : ∀ (k : Nat) (acc : List Ins) (bs : List Int) (e : Int) {l : List Ins} {r : List Int}, Byt bs → codD k acc bs e = (l, r, 0) → e = 0 ∧ ∃ l', l = acc ++ l' ∧ bs = l'.flatMap enI ++ r ∧ l'.length = k
  | 0, acc, bs, e, l, r, hb, h => by
    cases h
    exact ⟨rfl, [], by simp, by simp, rfl⟩
  | k + 1, acc, bs, e, l, r, hb, h => by
    by_cases he : e = 0
    · subst he
      refine ⟨rfl, ?_⟩
      cases bs with
      | nil => rw [codD_nil] at h; exact absurd (congrArg (fun z => z.2.2) h) (by simp)
      | cons c t =>
        have ht : Byt t := fun x hx => hb x (List.mem_cons_of_mem _ hx)
        by_cases hk : c < 1 ∨ 6 < c
        · rw [codD_kind k acc c t hk] at h; exact absurd (congrArg (fun z => z.2.2) h) (by simp)
        · cases hbr : (c == 1 || c == 3) with
          | true =>
            rw [codD_bare k acc c t hk hbr] at h
            obtain ⟨_, l', e2, e3, e4⟩ := codD_inv k (acc ++ [⟨c, 0⟩]) t 0 ht h
            have hen : enI ⟨c, 0⟩ = [c] := by unfold enI barB; dsimp only; rw [if_pos hbr]
            exact ⟨⟨c, 0⟩ :: l', by rw [e2]; simp, by rw [e3, List.flatMap_cons, hen]; rfl, by rw [List.length_cons, e4]⟩
          | false =>
            obtain ⟨n, b1, e1, hx⟩ : ∃ x b1 e1, numE t 0 = (x, b1, e1) := ⟨_, _, _, rfl⟩
            rw [codD_num k acc c t hk hbr, hx] at h
            have hb1 := numE_byt 0 ht
            rw [hx] at hb1
            obtain ⟨h1, l', e2, e3, e4⟩ := codD_inv k (acc ++ [⟨c, n⟩]) b1 e1 hb1 h
            subst h1
            obtain ⟨_, g2⟩ := numE_inv ht hx
            have hen : enI ⟨c, n⟩ = c :: zb n := by unfold enI barB; dsimp only; rw [if_neg (by rw [hbr]; decide)]
            refine ⟨⟨c, n⟩ :: l', by rw [e2]; simp, ?_, by rw [List.length_cons, e4]⟩
            rw [g2, e3, List.flatMap_cons, hen]
            simp
    · rw [codD_err (k + 1) acc bs he] at h
      exact absurd (congrArg (fun z => z.2.2) h) he
theorem body_inv {b : List Int} {e : Int} {p : Prg} (hb : Byt b) (h : bodyD b e = (p, 0)) : e = 0 ∧ [115, 100, 49] ++ b = prgB p ∧ ∃ x y, verE p = (x, y, 0) := by
  obtain ⟨b1, b2, b3, b4, b5, b6, ps, cs, az, nn, mm, kk, e1, e2, e3, e4, e5, e6, n1, n2, n3, n4, n5, n6, nb, ⟨y1, y2, y3, y4, y5, y6⟩, _, _, _, _, _⟩ := body_parts b e hb
  rw [nb] at h
  unfold finD at h
  split at h
  · rename_i h0; exact absurd (congrArg Prod.snd h) h0
  · split at h
    · rename_i h0; exact absurd (congrArg Prod.snd h) h0
    · rename_i h0 h1
      cases h
      have hend : endD b6 e6 = 0 := by simpa using h0
      have he6 : e6 = 0 ∧ b6 = [] := by
        unfold endD at hend
        split at hend
        · exact absurd hend (by decide)
        · rename_i hh
          refine ⟨hend, ?_⟩
          rcases b6 with _ | ⟨c, t⟩
          · rfl
          · exact absurd ⟨hend, by simp⟩ hh
      obtain ⟨rfl, rfl⟩ := he6
      obtain ⟨z5, as', q6, w6, g6⟩ := anssD_inv _ _ _ _ y5 n6
      subst z5
      obtain ⟨z4, w5⟩ := cntE_inv y4 n5
      subst z4
      obtain ⟨z3, ps', q4, w4, g4⟩ := numsD_inv _ _ _ _ y3 n4
      subst z3
      obtain ⟨z2, w3⟩ := cntE_inv y2 n3
      subst z2
      obtain ⟨z1, cs', q2, w2, g2⟩ := codD_inv _ _ _ _ y1 n2
      subst z1
      obtain ⟨z0, w1⟩ := cntE_inv hb n1
      rw [List.nil_append] at q2 q4 q6
      subst q2 q4 q6
      refine ⟨z0, ?_, (verE ⟨cs, ps, az⟩).1, (verE ⟨cs, ps, az⟩).2.1, ?_⟩
      · unfold prgB prg3 prg2 prg1
        dsimp only
        rw [g2, g4, g6, w1, w2, w3, w4, w5, w6]
        simp only [List.append_assoc, List.append_nil]
      · have : (verE ⟨cs, ps, az⟩).2.2 = 0 := by simpa using h1
        rw [← this]
/-- what is read is what is written. -/
theorem dec_inv {b : List Int} {p : Prg} (hb : Byt b) (h : decD b = (p, 0)) : prgB p = b ∧ ∃ x y, verE p = (x, y, 0) := by
  unfold decD at h
  split at h
  · exact absurd (congrArg Prod.snd h) (by simp)
  · split at h
    · exact absurd (congrArg Prod.snd h) (by simp)
    · obtain ⟨h0, h1, h2⟩ := body_inv (hb.drop 3) h
      refine ⟨?_, h2⟩
      have ht : b.take 3 = [115, 100, 49] := by
        split at h0
        · assumption
        · exact absurd h0 (by decide)
      rw [← h1, ← ht, List.take_append_drop]
/-- what is refused is no program. -/
theorem dec_bad {b : List Int} {p : Prg} {e : Int} (hb : Byt b) (h : decD b = (p, e)) (he : e ≠ 0) : p = noP := by
  unfold decD at h
  split at h
  · cases h; rfl
  · split at h
    · cases h; rfl
    · obtain ⟨b1, b2, b3, b4, b5, b6, ps, cs, az, nn, mm, kk, e1, e2, e3, e4, e5, e6, n1, n2, n3, n4, n5, n6, nb, _⟩ := body_parts (b.drop 3) (if b.take 3 = [115, 100, 49] then 0 else 4) (hb.drop 3)
      rw [nb] at h
      unfold finD at h
      split at h
      · cases h; rfl
      · split at h
        · cases h; rfl
        · cases h; exact absurd rfl he
end Go.Proofs.Ytpnmaopompfalaa
