/-
  A program out of bytes, plain.
-/
import Derived.Test.YtpnmaopompfalaaDecB
import Derived.Laws.BytesArg
namespace Go.Proofs.Ytpnmaopompfalaa
set_option linter.unusedVariables false
set_option linter.unusedSimpArgs false
open Go.ChangeShapes Go.WideShapes Go.ChangeAt Go.RowKit

def cntE (m : Int) (bs : List Int) (e : Int) : Int × List Int × Int := if (numE bs e).1 < 0 ∨ m < (numE bs e).1 then (0, (numE bs e).2.1, erE (numE bs e).2.2 1) else numE bs e
def tkD (n : Nat) (bs : List Int) (e : Int) : List Int × List Int × Int := if e = 0 ∧ n ≤ bs.length then (bs.take n, bs.drop n, 0) else ([], bs, erE e 5)
def numsD : Nat → List Int → List Int → Int → List Int × List Int × Int
  | 0, acc, bs, e => (acc, bs, e)
  | k + 1, acc, bs, e => numsD k (acc ++ [(numE bs e).1]) (numE bs e).2.1 (numE bs e).2.2
def savD (s e : Int) : Int := if s = 0 ∨ s = 1 then e else erE e 4
/-- an answer. -/
def aD (bs : List Int) (e : Int) : Ans × List Int × Int :=
  match numE bs e with
  | (o, b1, e1) => match numE b1 e1 with
    | (s, b2, e2) => match cntE 24 b2 (savD s e2) with
      | (k, b3, e3) => match tkD k.toNat b3 e3 with
        | (nm, b4, e4) => match cntE 6 b4 e4 with
          | (m, b5, e5) => match numsD m.toNat [] b5 e5 with
            | (os, b6, e6) => match numE b6 e6 with
              | (j, b7, e7) => (⟨⟨o, s == 1, strOfNums nm⟩, os, j⟩, b7, e7)
def anssD : Nat → List Ans → List Int → Int → List Ans × List Int × Int
  | 0, acc, bs, e => (acc, bs, e)
  | k + 1, acc, bs, e => anssD k (acc ++ [(aD bs e).1]) (aD bs e).2.1 (aD bs e).2.2
def codD : Nat → List Ins → List Int → Int → List Ins × List Int × Int
  | 0, acc, bs, e => (acc, bs, e)
  | k + 1, acc, bs, e => if e ≠ 0 then (acc, bs, e) else match bs with
    | [] => (acc, [], 5)
    | c :: t => if c < 1 ∨ 6 < c then (acc, t, 3) else if (c == 1 || c == 3) = true then codD k (acc ++ [⟨c, 0⟩]) t 0 else codD k (acc ++ [⟨c, (numE t 0).1⟩]) (numE t 0).2.1 (numE t 0).2.2
theorem unz_64 {N : Nat} (h : N < 18446744073709551616) : I64 (unz N) := by
  unfold unz
  split
  · exact i64_of (by omega) (by omega)
  · exact i64_of (by omega) (by omega)
theorem num_64 : ∀ (bs : List Int) (k v : Nat), k ≤ 9 → v < 128 ^ k → Byt bs → I64 (num k v bs).1
  | [], k, v, _, _, _ => i64_zero
  | c :: t, k, v, hk, hv, hb => by
    obtain ⟨hc1, hc2⟩ := hb c List.mem_cons_self
    obtain ⟨cn, rfl⟩ : ∃ cn : Nat, c = cn := ⟨c.toNat, by omega⟩
    rw [num_cons]
    by_cases h1 : (k = 9 ∧ 1 < (cn : Int)) ∨ (0 < k ∧ (cn : Int) = 0)
    · rw [if_pos h1]; exact i64_of (by omega) (by omega)
    · rw [if_neg h1]
      have hlim : k = 9 → cn ≤ 1 := fun e => by
        rcases (show cn ≤ 1 ∨ 1 < (cn : Int) by omega) with h' | h'
        · exact h'
        · exact absurd (.inl ⟨e, h'⟩) h1
      have hb1 := step_bd cn k hk hlim
      by_cases h2 : (cn : Int) < 128
      · rw [if_pos h2]
        rw [Nat.mod_eq_of_lt (show cn < 128 by omega)] at hb1
        exact unz_64 (by omega)
      · rw [if_neg h2]
        have hk9 : k < 9 := by
          rcases (show k < 9 ∨ k = 9 by omega) with h | h
          · exact h
          · have := hlim h; omega
        refine num_64 t (k + 1) _ (by omega) ?_ fun x hx => hb x (List.mem_cons_of_mem _ hx)
        rw [Nat.pow_succ, Nat.mul_comm (128 ^ k) 128]
        have h1 : (cn % 128 + 1) * 128 ^ k ≤ 128 * 128 ^ k := Nat.mul_le_mul_right _ (by omega)
        rw [Nat.succ_mul] at h1
        omega
theorem num_left : ∀ (bs : List Int) (k v : Nat), ∃ d, (num k v bs).2.1 = bs.drop d
  | [], k, v => ⟨0, rfl⟩
  | c :: t, k, v => by
    unfold num
    split
    · exact ⟨1, rfl⟩
    · split
      · exact ⟨1, rfl⟩
      · obtain ⟨d, h⟩ := num_left t (k + 1) (v + (c.toNat % 128) * 128 ^ k)
        exact ⟨d + 1, h⟩
theorem num_bad : ∀ (bs : List Int) (k v : Nat), (num k v bs).2.2 = 0 ∨ (num k v bs).1 = 0
  | [], k, v => .inr rfl
  | c :: t, k, v => by
    unfold num
    split
    · exact .inr rfl
    · split
      · exact .inl rfl
      · exact num_bad t (k + 1) (v + (c.toNat % 128) * 128 ^ k)
theorem numE_err {bs : List Int} {e : Int} (h : e ≠ 0) : numE bs e = (0, bs, e) := by unfold numE; rw [if_pos h]
theorem numE_ok (bs : List Int) : numE bs 0 = num 0 0 bs := by unfold numE; rw [if_neg (by simp)]
theorem numE_64 {bs : List Int} (e : Int) (hb : Byt bs) : I64 (numE bs e).1 := by
  by_cases h : e = 0
  · subst h; rw [numE_ok]; exact num_64 bs 0 0 (by decide) (by decide) hb
  · rw [numE_err h]; exact i64_of (by omega) (by omega)
theorem numE_left (bs : List Int) (e : Int) : ∃ d, (numE bs e).2.1 = bs.drop d := by
  by_cases h : e = 0
  · subst h; rw [numE_ok]; exact num_left bs 0 0
  · rw [numE_err h]; exact ⟨0, rfl⟩
theorem Byt.drop {bs : List Int} (h : Byt bs) (d : Nat) : Byt (bs.drop d) := fun c hc => h c (List.mem_of_mem_drop hc)
theorem numE_byt {bs : List Int} (e : Int) (hb : Byt bs) : Byt (numE bs e).2.1 := by
  obtain ⟨d, h⟩ := numE_left bs e
  rw [h]; exact hb.drop d
theorem numE_bad (bs : List Int) (e : Int) : (numE bs e).2.2 = 0 ∨ (numE bs e).1 = 0 := by
  by_cases h : e = 0
  · subst h; rw [numE_ok]; exact num_bad bs 0 0
  · rw [numE_err h]; exact .inr rfl
theorem erE_ne {e x : Int} (h : e ≠ 0) : erE e x = e := by unfold erE; rw [if_neg h]
theorem cntE_err {m : Int} {bs : List Int} {e : Int} (hm : 0 ≤ m) (h : e ≠ 0) : cntE m bs e = (0, bs, e) := by
  unfold cntE; rw [numE_err h, if_neg (by simp; omega)]
theorem cntE_bd {m : Int} (hm : 0 ≤ m) (bs : List Int) (e : Int) : 0 ≤ (cntE m bs e).1 ∧ (cntE m bs e).1 ≤ m := by
  unfold cntE
  split
  · exact ⟨Int.le_refl _, hm⟩
  · rename_i h
    exact ⟨by omega, by omega⟩
theorem cntE_left (m : Int) (bs : List Int) (e : Int) : ∃ d, (cntE m bs e).2.1 = bs.drop d := by
  unfold cntE
  split
  · exact numE_left bs e
  · exact numE_left bs e
theorem cntE_byt (m : Int) {bs : List Int} (e : Int) (hb : Byt bs) : Byt (cntE m bs e).2.1 := by
  obtain ⟨d, h⟩ := cntE_left m bs e
  rw [h]; exact hb.drop d
theorem cntE_bad {m : Int} (bs : List Int) (e : Int) (hm : 0 ≤ m) : (cntE m bs e).2.2 = 0 ∨ (cntE m bs e).1 = 0 := by
  unfold cntE
  split
  · exact .inr rfl
  · exact numE_bad bs e
theorem tkD_byt (n : Nat) {bs : List Int} (e : Int) (hb : Byt bs) : Byt (tkD n bs e).1 ∧ Byt (tkD n bs e).2.1 := by
  unfold tkD
  split
  · exact ⟨fun c hc => hb c (List.mem_of_mem_take hc), hb.drop n⟩
  · exact ⟨fun c hc => by simp at hc, hb⟩
theorem tkD_len (n : Nat) (bs : List Int) (e : Int) : (tkD n bs e).1.length ≤ n := by
  unfold tkD
  split
  · rw [List.length_take]; exact Nat.min_le_left _ _
  · exact Nat.zero_le _
theorem numsD_byt : ∀ (k : Nat) (acc bs : List Int) (e : Int), Byt bs → (∀ x ∈ acc, I64 x) → Byt (numsD k acc bs e).2.1 ∧ (∀ x ∈ (numsD k acc bs e).1, I64 x) ∧ (numsD k acc bs e).1.length = acc.length + k
  | 0, acc, bs, e, hb, ha => ⟨hb, ha, rfl⟩
  | k + 1, acc, bs, e, hb, ha => by
    obtain ⟨h1, h2, h3⟩ := numsD_byt k (acc ++ [(numE bs e).1]) (numE bs e).2.1 (numE bs e).2.2 (numE_byt e hb) (fun x hx => by
      rcases List.mem_append.1 hx with h | h
      · exact ha x h
      · rw [List.mem_singleton.1 h]; exact numE_64 e hb)
    refine ⟨h1, h2, ?_⟩
    show (numsD k (acc ++ [(numE bs e).1]) (numE bs e).2.1 (numE bs e).2.2).1.length = _
    rw [h3, List.length_append, List.length_singleton]; omega
theorem numsD_err : ∀ (k : Nat) (acc bs : List Int) {e : Int}, e ≠ 0 → (numsD k acc bs e).2 = (bs, e)
  | 0, acc, bs, e, h => rfl
  | k + 1, acc, bs, e, h => by
    show (numsD k (acc ++ [(numE bs e).1]) (numE bs e).2.1 (numE bs e).2.2).2 = _
    rw [numE_err h]
    exact numsD_err k _ bs h
theorem aD_eq {bs b1 b2 b3 b4 b5 b6 b7 nm os : List Int} {e o s k m j e1 e2 e3 e4 e5 e6 e7 : Int} (h1 : numE bs e = (o, b1, e1)) (h2 : numE b1 e1 = (s, b2, e2)) (h3 : cntE 24 b2 (savD s e2) = (k, b3, e3)) (h4 : tkD k.toNat b3 e3 = (nm, b4, e4)) (h5 : cntE 6 b4 e4 = (m, b5, e5)) (h6 : numsD m.toNat [] b5 e5 = (os, b6, e6)) (h7 : numE b6 e6 = (j, b7, e7)) :
    aD bs e = (⟨⟨o, s == 1, strOfNums nm⟩, os, j⟩, b7, e7) := by
  unfold aD
  simp only [h1, h2, h3, h4, h5, h6, h7]
/-- an answer that was read, in letters. -/
theorem aD_parts (bs : List Int) (e : Int) (hb : Byt bs) : ∃ (b1 b2 b3 b4 b5 b6 b7 nm os : List Int) (o s k m j e1 e2 e3 e4 e5 e6 e7 : Int), numE bs e = (o, b1, e1) ∧ numE b1 e1 = (s, b2, e2) ∧ cntE 24 b2 (savD s e2) = (k, b3, e3) ∧ tkD k.toNat b3 e3 = (nm, b4, e4) ∧ cntE 6 b4 e4 = (m, b5, e5) ∧ numsD m.toNat [] b5 e5 = (os, b6, e6) ∧ numE b6 e6 = (j, b7, e7) ∧ aD bs e = (⟨⟨o, s == 1, strOfNums nm⟩, os, j⟩, b7, e7) ∧ (Byt b1 ∧ Byt b2 ∧ Byt b3 ∧ Byt b4 ∧ Byt b5 ∧ Byt b6 ∧ Byt b7 ∧ Byt nm) ∧ (I64 o ∧ I64 s ∧ I64 j ∧ ∀ x ∈ os, I64 x) ∧ (0 ≤ k ∧ k ≤ 24 ∧ 0 ≤ m ∧ m ≤ 6) ∧ nm.length ≤ k.toNat ∧ os.length = m.toNat := by
  obtain ⟨o, b1, e1, h1⟩ : ∃ o b1 e1, numE bs e = (o, b1, e1) := ⟨_, _, _, rfl⟩
  obtain ⟨s, b2, e2, h2⟩ : ∃ o b e, numE b1 e1 = (o, b, e) := ⟨_, _, _, rfl⟩
  obtain ⟨k, b3, e3, h3⟩ : ∃ o b e, cntE 24 b2 (savD s e2) = (o, b, e) := ⟨_, _, _, rfl⟩
  obtain ⟨nm, b4, e4, h4⟩ : ∃ o b e, tkD k.toNat b3 e3 = (o, b, e) := ⟨_, _, _, rfl⟩
  obtain ⟨m, b5, e5, h5⟩ : ∃ o b e, cntE 6 b4 e4 = (o, b, e) := ⟨_, _, _, rfl⟩
  obtain ⟨os, b6, e6, h6⟩ : ∃ o b e, numsD m.toNat [] b5 e5 = (o, b, e) := ⟨_, _, _, rfl⟩
  obtain ⟨j, b7, e7, h7⟩ : ∃ o b e, numE b6 e6 = (o, b, e) := ⟨_, _, _, rfl⟩
  have t1 := numE_byt e hb
  have i1 := numE_64 e hb
  rw [h1] at t1 i1
  have t2 := numE_byt e1 t1
  have i2 := numE_64 e1 t1
  rw [h2] at t2 i2
  have t3 := cntE_byt 24 (savD s e2) t2
  have c3 := cntE_bd (m := 24) (by decide) b2 (savD s e2)
  rw [h3] at t3 c3
  have t4 := tkD_byt k.toNat e3 t3
  have l4 := tkD_len k.toNat b3 e3
  rw [h4] at t4 l4
  have t5 := cntE_byt 6 e4 t4.2
  have c5 := cntE_bd (m := 6) (by decide) b4 e4
  rw [h5] at t5 c5
  have t6 := numsD_byt m.toNat [] b5 e5 t5 (fun x hx => by simp at hx)
  rw [h6] at t6
  have t7 := numE_byt e6 t6.1
  have i7 := numE_64 e6 t6.1
  rw [h7] at t7 i7
  exact ⟨b1, b2, b3, b4, b5, b6, b7, nm, os, o, s, k, m, j, e1, e2, e3, e4, e5, e6, e7, h1, h2, h3, h4, h5, h6, h7, aD_eq h1 h2 h3 h4 h5 h6 h7, ⟨t1, t2, t3, t4.2, t5, t6.1, t7, t4.1⟩, ⟨i1, i2, i7, t6.2.1⟩, ⟨c3.1, c3.2, c5.1, c5.2⟩, l4, by rw [t6.2.2]; simp⟩
theorem savD_ne {s e : Int} (h : e ≠ 0) : savD s e = e := by unfold savD; split; rfl; exact erE_ne h
theorem aD_err (bs : List Int) {e : Int} (h : e ≠ 0) : (aD bs e).2 = (bs, e) := by
  have hn : (numsD (0 : Int).toNat [] bs e) = ([], bs, e) := rfl
  have ht : tkD (0 : Int).toNat bs e = ([], bs, e) := by unfold tkD; rw [if_neg (fun g => h g.1), erE_ne h]
  have hs : cntE 24 bs (savD 0 e) = (0, bs, e) := by rw [savD_ne h]; exact cntE_err (by decide) h
  rw [aD_eq (numE_err h) (numE_err h) hs ht (cntE_err (by decide) h) hn (numE_err h)]
theorem anssD_err : ∀ (k : Nat) (acc : List Ans) (bs : List Int) {e : Int}, e ≠ 0 → (anssD k acc bs e).2 = (bs, e)
  | 0, acc, bs, e, h => rfl
  | k + 1, acc, bs, e, h => by
    show (anssD k (acc ++ [(aD bs e).1]) (aD bs e).2.1 (aD bs e).2.2).2 = _
    rw [aD_err bs h]
    exact anssD_err k _ bs h
/-- what an answer may be that was read. -/
def AOk (a : Ans) : Prop := I64 a.ck.off ∧ I64 a.jump ∧ (∀ x ∈ a.offs, I64 x) ∧ a.offs.length ≤ 6 ∧ a.ck.nm.size ≤ 24
theorem aD_ok (bs : List Int) (e : Int) (hb : Byt bs) : AOk (aD bs e).1 ∧ Byt (aD bs e).2.1 := by
  obtain ⟨b1, b2, b3, b4, b5, b6, b7, nm, os, o, s, k, m, j, e1, e2, e3, e4, e5, e6, e7, h1, h2, h3, h4, h5, h6, h7, ha, ⟨_, _, _, _, _, _, y7, _⟩, ⟨i1, i2, i3, i4⟩, ⟨c1, c2, c3, c4⟩, l1, l2⟩ := aD_parts bs e hb
  rw [ha]
  exact ⟨⟨i1, i3, i4, by show os.length ≤ 6; omega, by show (strOfNums nm).size ≤ 24; rw [strOfNums_size]; omega⟩, y7⟩
theorem anssD_ok : ∀ (k : Nat) (acc : List Ans) (bs : List Int) (e : Int), Byt bs → (∀ x ∈ acc, AOk x) → Byt (anssD k acc bs e).2.1 ∧ (∀ x ∈ (anssD k acc bs e).1, AOk x) ∧ (anssD k acc bs e).1.length = acc.length + k
  | 0, acc, bs, e, hb, ha => ⟨hb, ha, rfl⟩
  | k + 1, acc, bs, e, hb, ha => by
    obtain ⟨a1, a2⟩ := aD_ok bs e hb
    obtain ⟨h1, h2, h3⟩ := anssD_ok k (acc ++ [(aD bs e).1]) (aD bs e).2.1 (aD bs e).2.2 a2 (fun x hx => by
      rcases List.mem_append.1 hx with h | h
      · exact ha x h
      · rw [List.mem_singleton.1 h]; exact a1)
    refine ⟨h1, h2, ?_⟩
    show (anssD k (acc ++ [(aD bs e).1]) (aD bs e).2.1 (aD bs e).2.2).1.length = _
    rw [h3, List.length_append, List.length_singleton]; omega
theorem codD_err (k : Nat) (acc : List Ins) (bs : List Int) {e : Int} (h : e ≠ 0) : codD k acc bs e = (acc, bs, e) := by
  cases k with
  | zero => rfl
  | succ k => show (if e ≠ 0 then _ else _) = _; rw [if_pos h]
theorem codD_nil (k : Nat) (acc : List Ins) : codD (k + 1) acc [] 0 = (acc, [], 5) := rfl
theorem codD_kind (k : Nat) (acc : List Ins) (c : Int) (t : List Int) (h : c < 1 ∨ 6 < c) : codD (k + 1) acc (c :: t) 0 = (acc, t, 3) := by
  show (if (0 : Int) ≠ 0 then _ else if c < 1 ∨ 6 < c then _ else _) = _
  rw [if_neg (by simp), if_pos h]
theorem codD_bare (k : Nat) (acc : List Ins) (c : Int) (t : List Int) (h : ¬ (c < 1 ∨ 6 < c)) (hb : (c == 1 || c == 3) = true) : codD (k + 1) acc (c :: t) 0 = codD k (acc ++ [⟨c, 0⟩]) t 0 := by
  show (if (0 : Int) ≠ 0 then _ else if c < 1 ∨ 6 < c then _ else if (c == 1 || c == 3) = true then _ else _) = _
  rw [if_neg (by simp), if_neg h, if_pos hb]
theorem codD_num (k : Nat) (acc : List Ins) (c : Int) (t : List Int) (h : ¬ (c < 1 ∨ 6 < c)) (hb : (c == 1 || c == 3) = false) : codD (k + 1) acc (c :: t) 0 = codD k (acc ++ [⟨c, (numE t 0).1⟩]) (numE t 0).2.1 (numE t 0).2.2 := by
  show (if (0 : Int) ≠ 0 then _ else if c < 1 ∨ 6 < c then _ else if (c == 1 || c == 3) = true then _ else _) = _
  rw [if_neg (by simp), if_neg h, if_neg (by simp [hb])]
def IOk (x : Ins) : Prop := I64 x.op ∧ I64 x.n
theorem codD_ok : ∀ (k : Nat) (acc : List Ins) (bs : List Int) (e : Int), Byt bs → (∀ x ∈ acc, IOk x) → Byt (codD k acc bs e).2.1 ∧ (∀ x ∈ (codD k acc bs e).1, IOk x) ∧ (codD k acc bs e).1.length ≤ acc.length + k
  | 0, acc, bs, e, hb, ha => ⟨hb, ha, Nat.le_refl _⟩
  | k + 1, acc, bs, e, hb, ha => by
    by_cases he : e = 0
    · subst he
      cases bs with
      | nil => exact ⟨fun c hc => by simp [codD_nil] at hc, ha, by rw [codD_nil]; exact Nat.le_add_right _ _⟩
      | cons c t =>
        have ht : Byt t := fun x hx => hb x (List.mem_cons_of_mem _ hx)
        obtain ⟨c1, c2⟩ := hb c List.mem_cons_self
        by_cases hk : c < 1 ∨ 6 < c
        · rw [codD_kind k acc c t hk]; exact ⟨ht, ha, Nat.le_add_right _ _⟩
        · have add : ∀ n : Int, I64 n → ∀ x ∈ acc ++ [⟨c, n⟩], IOk x := fun n hn x hx => by
            rcases List.mem_append.1 hx with h | h
            · exact ha x h
            · rw [List.mem_singleton.1 h]; exact ⟨i64_of (x := c) (by omega) (by omega), hn⟩
          cases hbr : (c == 1 || c == 3) with
          | true =>
            rw [codD_bare k acc c t hk hbr]
            obtain ⟨h1, h2, h3⟩ := codD_ok k (acc ++ [⟨c, 0⟩]) t 0 ht (add 0 (i64_of (by omega) (by omega)))
            exact ⟨h1, h2, by rw [List.length_append, List.length_singleton] at h3; omega⟩
          | false =>
            rw [codD_num k acc c t hk hbr]
            obtain ⟨h1, h2, h3⟩ := codD_ok k (acc ++ [⟨c, (numE t 0).1⟩]) (numE t 0).2.1 (numE t 0).2.2 (numE_byt 0 ht) (add _ (numE_64 0 ht))
            exact ⟨h1, h2, by rw [List.length_append, List.length_singleton] at h3; omega⟩
    · rw [codD_err (k + 1) acc bs he]; exact ⟨hb, ha, Nat.le_add_right _ _⟩
end Go.Proofs.Ytpnmaopompfalaa
