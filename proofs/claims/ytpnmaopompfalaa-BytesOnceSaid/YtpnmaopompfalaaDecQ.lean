/-
  A program out of bytes, plain: the whole.
-/
import Derived.Test.YtpnmaopompfalaaDecP
import Derived.Test.YtpnmaopompfalaaCodJ
namespace Go.Proofs.Ytpnmaopompfalaa
set_option linter.unusedVariables false
set_option linter.unusedSimpArgs false
open Go.ChangeShapes Go.WideShapes Go.ChangeAt Go.RowKit

def noP : Prg := ⟨[], [], []⟩
def finD (p : Prg) (e : Int) : Prg × Int := if e ≠ 0 then (noP, e) else if (verE p).2.2 ≠ 0 then (noP, (verE p).2.2) else (p, 0)
def endD (bs : List Int) (e : Int) : Int := if e = 0 ∧ 0 < bs.length then 4 else e
def bodyD (b : List Int) (e : Int) : Prg × Int :=
  match cntE 8000 b e with
  | (n, b1, e1) => match codD n.toNat [] b1 e1 with
    | (cs, b2, e2) => match cntE 2000 b2 e2 with
      | (m, b3, e3) => match numsD m.toNat [] b3 e3 with
        | (ps, b4, e4) => match cntE 2000 b4 e4 with
          | (k, b5, e5) => match anssD k.toNat [] b5 e5 with
            | (az, b6, e6) => finD ⟨cs, ps, az⟩ (endD b6 e6)
def decD (b : List Int) : Prg × Int :=
  if 200000 < b.length then (noP, 1) else if b.length < 3 then (noP, 5) else bodyD (b.drop 3) (if b.take 3 = [115, 100, 49] then 0 else 4)
theorem finD_err {p : Prg} {e : Int} (h : e ≠ 0) : finD p e = (noP, e) := by unfold finD; rw [if_pos h]
theorem endD_err {bs : List Int} {e : Int} (h : e ≠ 0) : endD bs e = e := by unfold endD; rw [if_neg (fun q => h q.1)]
theorem body_eq {b b1 b2 b3 b4 b5 b6 ps : List Int} {cs : List Ins} {az : List Ans} {e n m k e1 e2 e3 e4 e5 e6 : Int} (h1 : cntE 8000 b e = (n, b1, e1)) (h2 : codD n.toNat [] b1 e1 = (cs, b2, e2)) (h3 : cntE 2000 b2 e2 = (m, b3, e3)) (h4 : numsD m.toNat [] b3 e3 = (ps, b4, e4)) (h5 : cntE 2000 b4 e4 = (k, b5, e5)) (h6 : anssD k.toNat [] b5 e5 = (az, b6, e6)) :
    bodyD b e = finD ⟨cs, ps, az⟩ (endD b6 e6) := by
  unfold bodyD
  simp only [h1, h2, h3, h4, h5, h6]
/-- the whole, in letters. -/
theorem body_parts (b : List Int) (e : Int) (hb : Byt b) : ∃ (b1 b2 b3 b4 b5 b6 ps : List Int) (cs : List Ins) (az : List Ans) (n m k : Nat) (e1 e2 e3 e4 e5 e6 : Int), cntE 8000 b e = ((n : Int), b1, e1) ∧ codD n [] b1 e1 = (cs, b2, e2) ∧ cntE 2000 b2 e2 = ((m : Int), b3, e3) ∧ numsD m [] b3 e3 = (ps, b4, e4) ∧ cntE 2000 b4 e4 = ((k : Int), b5, e5) ∧ anssD k [] b5 e5 = (az, b6, e6) ∧ bodyD b e = finD ⟨cs, ps, az⟩ (endD b6 e6) ∧ (Byt b1 ∧ Byt b2 ∧ Byt b3 ∧ Byt b4 ∧ Byt b5 ∧ Byt b6) ∧ (n ≤ 8000 ∧ m ≤ 2000 ∧ k ≤ 2000) ∧ (∀ x ∈ cs, IOk x) ∧ (∀ x ∈ ps, I64 x) ∧ (∀ x ∈ az, AOk x) ∧ (e1 = 0 ∨ n = 0) ∧ (e3 = 0 ∨ m = 0) ∧ (e5 = 0 ∨ k = 0) := by
  obtain ⟨n, b1, e1, h1⟩ : ∃ o b' e', cntE 8000 b e = (o, b', e') := ⟨_, _, _, rfl⟩
  have t1 := cntE_byt 8000 e hb
  have c1 := cntE_bd (m := 8000) (by decide) b e
  have z1 := cntE_bad (m := 8000) b e (by decide)
  rw [h1] at t1 c1 z1
  obtain ⟨nn, rfl⟩ : ∃ nn : Nat, n = nn := ⟨n.toNat, by have := c1.1; omega⟩
  obtain ⟨cs, b2, e2, h2⟩ : ∃ o b' e', codD nn [] b1 e1 = (o, b', e') := ⟨_, _, _, rfl⟩
  have t2 := codD_ok nn [] b1 e1 t1 (fun x hx => by simp at hx)
  rw [h2] at t2
  obtain ⟨m, b3, e3, h3⟩ : ∃ o b' e', cntE 2000 b2 e2 = (o, b', e') := ⟨_, _, _, rfl⟩
  have t3 := cntE_byt 2000 e2 t2.1
  have c3 := cntE_bd (m := 2000) (by decide) b2 e2
  have z3 := cntE_bad (m := 2000) b2 e2 (by decide)
  rw [h3] at t3 c3 z3
  obtain ⟨mm, rfl⟩ : ∃ nn : Nat, m = nn := ⟨m.toNat, by have := c3.1; omega⟩
  obtain ⟨ps, b4, e4, h4⟩ : ∃ o b' e', numsD mm [] b3 e3 = (o, b', e') := ⟨_, _, _, rfl⟩
  have t4 := numsD_byt mm [] b3 e3 t3 (fun x hx => by simp at hx)
  rw [h4] at t4
  obtain ⟨k, b5, e5, h5⟩ : ∃ o b' e', cntE 2000 b4 e4 = (o, b', e') := ⟨_, _, _, rfl⟩
  have t5 := cntE_byt 2000 e4 t4.1
  have c5 := cntE_bd (m := 2000) (by decide) b4 e4
  have z5 := cntE_bad (m := 2000) b4 e4 (by decide)
  rw [h5] at t5 c5 z5
  obtain ⟨kk, rfl⟩ : ∃ nn : Nat, k = nn := ⟨k.toNat, by have := c5.1; omega⟩
  obtain ⟨az, b6, e6, h6⟩ : ∃ o b' e', anssD kk [] b5 e5 = (o, b', e') := ⟨_, _, _, rfl⟩
  have t6 := anssD_ok kk [] b5 e5 t5 (fun x hx => by simp at hx)
  rw [h6] at t6
  have y1 := c1.2
  have y3 := c3.2
  have y5 := c5.2
  dsimp only at y1 y3 y5 z1 z3 z5
  exact ⟨b1, b2, b3, b4, b5, b6, ps, cs, az, nn, mm, kk, e1, e2, e3, e4, e5, e6, h1, h2, h3, h4, h5, h6, body_eq h1 (by rw [Int.toNat_natCast]; exact h2) h3 (by rw [Int.toNat_natCast]; exact h4) h5 (by rw [Int.toNat_natCast]; exact h6), ⟨t1, t2.1, t3, t4.1, t5, t6.1⟩, ⟨by omega, by omega, by omega⟩, t2.2.1, t4.2.1, t6.2.1, by omega, by omega, by omega⟩
/-- an error in the code is the answer. -/
theorem body_err {b b1 b2 : List Int} {e n e1 e2 : Int} {cs : List Ins} (h1 : cntE 8000 b e = (n, b1, e1)) (h2 : codD n.toNat [] b1 e1 = (cs, b2, e2)) (he : e2 ≠ 0) : bodyD b e = (noP, e2) := by
  have h3 := cntE_err (m := 2000) (bs := b2) (by decide) he
  rw [body_eq h1 h2 h3 (ps := []) (b4 := b2) (e4 := e2) rfl h3 (az := []) (b6 := b2) (e6 := e2) rfl, endD_err he, finD_err he]
theorem body_err0 (b : List Int) {e : Int} (he : e ≠ 0) : bodyD b e = (noP, e) := body_err (cntE_err (by decide) he) (cs := []) (b2 := b) (e2 := e) rfl he
theorem fin_pool {b b1 b2 b3 b4 : List Int} {e n m e1 e2 e3 e4 : Int} {cs : List Ins} {ps : List Int} (h1 : cntE 8000 b e = (n, b1, e1)) (h2 : codD n.toNat [] b1 e1 = (cs, b2, e2)) (h3 : cntE 2000 b2 e2 = (m, b3, e3)) (h4 : numsD m.toNat [] b3 e3 = (ps, b4, e4)) (he : e4 ≠ 0) : bodyD b e = (noP, e4) := by
  have h5 := cntE_err (m := 2000) (bs := b4) (by decide) he
  rw [body_eq h1 h2 h3 h4 h5 (az := []) (b6 := b4) (e6 := e4) rfl, endD_err he, finD_err he]
end Go.Proofs.Ytpnmaopompfalaa
