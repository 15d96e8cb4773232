/-
  The law on tree.Eval.
-/
import Derived.Test.YtpnmaopompfalaaTreeK
import Derived.Test.YtpnmaopompfalaaTreeD
namespace Go.Proofs.Ytpnmaopompfalaa
set_option linter.unusedVariables false
set_option linter.unusedSimpArgs false
open Go.ChangeShapes Go.WideShapes Go.ChangeAt Go.RowKit

def AnsV (A : Ans) (v : Value) : Value := .agg #[.int .i64 A.ck.off, .bool A.ck.sav, .string A.ck.nm, v, .int .i64 A.jump]
theorem SlAt_nil (w : World) : SlAt w 1 RInt (.slice none 0 0) [] := .inl ⟨none, 0, rfl, rfl⟩
/-- the one answer that both evaluations tell. -/
theorem eval_ex (f : Frs) (t : Int) : ∃ A : Ans, A.ck.nm.size ≤ maxLen ∧
    (∀ (vn va : Value) (w : World), FrsAt w vn va f → Calls Try.prog 35 #[.agg #[vn, va], .int .i64 t] w fun e w' => ∃ v', e = .returned (.tuple #[.agg #[.int .i64 A.ck.off, .bool A.ck.sav, .string A.ck.nm, v', .int .i64 A.jump], .int .i64 (frsE f)]) ∧ SlAt w' 1 RInt v' A.offs ∧ Below w.heap.size w w') ∧
    (∀ (vn va : Value) (w : World), FrsAt w vn va f → Calls Try.prog 31 #[.agg #[vn, va], .int .i64 t] w fun e w' => ∃ v', e = .returned (.tuple #[.agg #[.int .i64 A.ck.off, .bool A.ck.sav, .string A.ck.nm, v', .int .i64 A.jump], .int .i64 (frsE f)]) ∧ SlAt w' 1 RInt v' A.offs ∧ Below w.heap.size w w') ∧ (frsE f = 0 → A ∈ f.answers) := by
  by_cases h : frsE f = 0
  · obtain ⟨g0, g1, g2, g3, g4⟩ := frs_good h
    obtain ⟨a, ha, ha0, ha1⟩ := lf_ex f.nodes f.answers.length t g4 (f.nodes.length) (f.nodes.length - 1) (by omega) (by omega)
    obtain ⟨i, rfl⟩ : ∃ i : Nat, a = i := ⟨a.toNat, by omega⟩
    have hi : i < f.answers.length := by omega
    have hm := List.getElem_mem hi
    have hs := (ansE_offs (g3 i hi)).2
    have h64 : ∀ {w : World} {vn va : Value}, FrsAt w vn va f → ∀ x ∈ f.answers[i].offs, I64 x := fun hf x hx => by
      obtain ⟨cs, vo, _, hv, _⟩ := hf.2.all _ hm
      exact ints64 hv x hx
    rw [h]
    refine ⟨f.answers[i], by unfold maxLen; omega, fun vn va w hf => (eval_ok f vn va t i w hf h ha hi).mono ?_, fun vn va w hf => (evalOf_ok f vn va t i w hf h ha hi).mono ?_, fun _ => hm⟩
    · rintro e w' ⟨v', he, ho, hb⟩
      exact ⟨v', he, ints_of_own (h64 hf) ho, hb⟩
    · rintro e w' ⟨v', he, ho, hb⟩
      exact ⟨v', he, ints_of_own (h64 hf) ho, hb⟩
  · refine ⟨⟨⟨0, false, ⟨#[]⟩⟩, [], 0⟩, Nat.zero_le _, fun vn va w hf => (eval_bad f vn va t w hf h).mono ?_, fun vn va w hf => (evalOf_bad f vn va t w hf h).mono ?_, fun h' => absurd h' h⟩
    · rintro e w' ⟨he, hb⟩
      exact ⟨_, he, SlAt_nil _, hb⟩
    · rintro e w' ⟨he, hb⟩
      exact ⟨_, he, SlAt_nil _, hb⟩
set_option maxHeartbeats 2000000 in
theorem walkTreeEvals (vn va : Value) (f : Frs) (n : Int) (w : World) (hf : FrsAt w vn va f) (hn : I64 n) (hr : f.nodes.length * 8 ≤ 140737488355320) :
    Calls Try.prog 8 #[.agg #[vn, va], .int .i64 n] w fun e w' => e = .returned (.bool true) ∧ Below w.heap.size w w' := by
  have HF := Lib.hid hf
  have HN := Lib.hid hn
  clear hf hn
  go_enter Try.func8, Try.ntmps8
  go_wp2_with fail
  have bw : Below w.heap.size w (w.alloc (.cells #[vn, va] 34)) := (Below.refl _ _).alloc (Nat.le_refl _) _
  have bz : w.heap.size < (w.alloc (.cells #[vn, va] 34)).heap.size := by rw [size_alloc]; omega
  have b0 : ∀ j, (w.alloc (.cells #[vn, va] 34)).cell? ⟨w.heap.size, j, none⟩ = _ := fun j => World.cell?_alloc_at (w := w) _ _ w.heap.size j rfl
  have HF1 := Lib.hid (HF.out.mono bw)
  refine (bounds_any f _ _ _ HF1.out hr).mono ?_; rintro e w1 ⟨v, xs, rfl, hv, hb1⟩
  have HV := Lib.hid hv
  clear hv
  have hw1 := bw.trans (hb1.mono bw.size)
  have hz1 := Nat.lt_of_lt_of_le bz hb1.size
  have q0 : w1.cell? ⟨w.heap.size, 0, none⟩ = some vn := (hb1.cell (p := ⟨w.heap.size, 0, none⟩) bz).trans (b0 0)
  have q1 : w1.cell? ⟨w.heap.size, 1, none⟩ = some va := (hb1.cell (p := ⟨w.heap.size, 1, none⟩) bz).trans (b0 1)
  clear b0 hb1 HF1 bz bw
  go_wp2_with fail
  refine (asked_any v xs n _ HV.out HN.out).mono ?_; rintro e w' ⟨t, h64, rfl, rfl⟩
  obtain ⟨A, hA, hE, hO, _⟩ := eval_ex f t
  have HE := Lib.hid hE
  have HO := Lib.hid hO
  have H6 := Lib.hid h64
  have HA := Lib.hid hA
  clear hE hO h64 hA
  go_wp2_with fail
  refine (HE.out _ _ _ (HF.out.mono hw1)).mono ?_; rintro e w2 ⟨v2, rfl, hs2, hb2⟩
  obtain ⟨a2, c2, rfl, _⟩ := hs2.shape
  have HS2 := Lib.hid hs2
  have hz2 := Nat.lt_of_lt_of_le hz1 hb2.size
  have p0 := (hb2.cell (p := ⟨w.heap.size, 0, none⟩) hz1).trans q0
  have p1 := (hb2.cell (p := ⟨w.heap.size, 1, none⟩) hz1).trans q1
  have hw2 := hw1.trans (hb2.mono hw1.size)
  clear hs2 hb2 q0 q1 hz1 hw1
  go_wp2_with fail
  have bx := (Below.refl w2.heap.size w2).alloc (Nat.le_refl _) (.cells #[.int .i64 A.ck.off, .bool A.ck.sav, .string A.ck.nm, .slice a2 A.offs.length c2, .int .i64 A.jump] 27)
  have hw3 := hw2.trans (bx.mono hw2.size)
  refine (HO.out _ _ _ (HF.out.mono hw3)).mono ?_; rintro e w3 ⟨v3, rfl, hs3, hb3⟩
  obtain ⟨a3, c3, rfl, _⟩ := hs3.shape
  have hxz : w2.heap.size < (w2.alloc (.cells #[.int .i64 A.ck.off, .bool A.ck.sav, .string A.ck.nm, .slice a2 A.offs.length c2, .int .i64 A.jump] 27)).heap.size := by rw [size_alloc]; omega
  have bj : ∀ j, (w2.alloc (.cells #[.int .i64 A.ck.off, .bool A.ck.sav, .string A.ck.nm, .slice a2 A.offs.length c2, .int .i64 A.jump] 27)).cell? ⟨w2.heap.size, j, none⟩ = _ := fun j => World.cell?_alloc_at (w := w2) _ _ w2.heap.size j rfl
  have j0 : w3.cell? ⟨w2.heap.size, 0, none⟩ = some (.int .i64 A.ck.off) := (hb3.cell (p := ⟨w2.heap.size, 0, none⟩) hxz).trans (bj 0)
  have j1 : w3.cell? ⟨w2.heap.size, 1, none⟩ = some (.bool A.ck.sav) := (hb3.cell (p := ⟨w2.heap.size, 1, none⟩) hxz).trans (bj 1)
  have j2 : w3.cell? ⟨w2.heap.size, 2, none⟩ = some (.string A.ck.nm) := (hb3.cell (p := ⟨w2.heap.size, 2, none⟩) hxz).trans (bj 2)
  have j3 : w3.cell? ⟨w2.heap.size, 3, none⟩ = some (.slice a2 A.offs.length c2) := (hb3.cell (p := ⟨w2.heap.size, 3, none⟩) hxz).trans (bj 3)
  have j4 : w3.cell? ⟨w2.heap.size, 4, none⟩ = some (.int .i64 A.jump) := (hb3.cell (p := ⟨w2.heap.size, 4, none⟩) hxz).trans (bj 4)
  have jz : w2.heap.size < w3.heap.size := Nat.lt_of_lt_of_le hxz hb3.size
  have hw4 := hw3.trans (hb3.mono hw3.size)
  have HS3 := Lib.hid hs3
  have HS2' := Lib.hid ((HS2.out.mono bx fun _ _ h => h).mono hb3 fun _ _ h => h)
  clear bj hxz hs3 HS2 hb3 bx hw3 HE HO
  have by3 := (Below.refl w3.heap.size w3).alloc (Nat.le_refl _) (.cells #[.int .i64 A.ck.off, .bool A.ck.sav, .string A.ck.nm, .slice a3 A.offs.length c3, .int .i64 A.jump] 27)
  go_wp2_with fail
  refine (sameAnswer_same A _ _ _ (HS2'.out.mono by3 fun _ _ h => h) (HS3.out.mono by3 fun _ _ h => h) HA.out).mono ?_; rintro e w5 ⟨rfl, hb5⟩
  have hw5 := (hw4.trans (by3.mono hw4.size)).trans (hb5.mono (Nat.le_trans hw4.size by3.size))
  go_wp2
  go_ret
  exact ⟨rfl, hw5⟩
end Go.Proofs.Ytpnmaopompfalaa
