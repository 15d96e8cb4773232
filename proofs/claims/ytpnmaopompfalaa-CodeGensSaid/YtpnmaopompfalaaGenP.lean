/-
  The law of code.Gen.
-/
import Derived.Test.YtpnmaopompfalaaGenN
import Derived.Test.YtpnmaopompfalaaCodO
namespace Go.Proofs.Ytpnmaopompfalaa
set_option linter.unusedVariables false
set_option linter.unusedSimpArgs false
open Go.ChangeShapes Go.WideShapes Go.ChangeAt Go.RowKit

theorem fault_lit (f : Frs) (vn va : Value) (w : World) (hf : FrsAt w vn va f) {e : Int} (h : frsE f = e) :
    Calls Try.prog 25 #[.agg #[vn, va]] w fun r w' => r = .returned (.int .i64 e) ∧ Below w.heap.size w w' := h ▸ fault_any f vn va w hf
/-- what the program and the forest answer, both. -/
theorem gen_ex (f : Frs) (h : frsE f = 0) (s1 : (genAll f.nodes (reachD f.nodes)).code.length ≤ 8000) (s2 : (genAll f.nodes (reachD f.nodes)).pool.length ≤ 2000) (t : Int) : ∃ (A : Ans) (k : Int), A.ck.nm.size ≤ maxLen ∧
    (∀ (vc vp va : Value) (w : World), PrgAt w vc vp va (genP f.nodes (reachD f.nodes) f.answers) → Calls Try.prog 44 #[.agg #[vc, vp, va], .int .i64 t] w fun e w' => ∃ v', e = .returned (.tuple #[.agg #[.int .i64 A.ck.off, .bool A.ck.sav, .string A.ck.nm, v', .int .i64 A.jump], .int .i64 k, .int .i64 0]) ∧ SlAt w' 1 RInt v' A.offs ∧ Below w.heap.size w w') ∧
    (∀ (vn va : Value) (w : World), FrsAt w vn va f → Calls Try.prog 31 #[.agg #[vn, va], .int .i64 t] w fun e w' => ∃ v', e = .returned (.tuple #[.agg #[.int .i64 A.ck.off, .bool A.ck.sav, .string A.ck.nm, v', .int .i64 A.jump], .int .i64 0]) ∧ SlAt w' 1 RInt v' A.offs ∧ Below w.heap.size w w') := by
  obtain ⟨g0, g1, g2, g3, g4⟩ := frs_good h
  obtain ⟨a, ha, ha0, ha1⟩ := lf_ex f.nodes f.answers.length t g4 (f.nodes.length) (f.nodes.length - 1) (by omega) (by omega)
  obtain ⟨i, rfl⟩ : ∃ i : Nat, a = i := ⟨a.toNat, by omega⟩
  have hi : i < f.answers.length := by omega
  have hm := List.getElem_mem hi
  have hs := (ansE_offs (g3 i hi)).2
  have hak := reach_ok (frs_chl h)
  have hrt := reach_root (ns := f.nodes) g0
  obtain ⟨x, y, hv⟩ := gen_good f (reachD f.nodes) h hak hrt s1 s2
  obtain ⟨k, hR, k0, k8⟩ := gen_run f (reachD f.nodes) hak g0 hrt s1 ha hi
  have h64 : ∀ {w : World} {vn va : Value}, FrsAt w vn va f → ∀ x ∈ f.answers[i].offs, I64 x := fun hf x hx => by
    obtain ⟨cs, vo, _, hv, _⟩ := hf.2.all _ hm
    exact ints64 hv x hx
  refine ⟨f.answers[i], k, by unfold maxLen; omega, fun vc vp va w hp => (ranOf_ok _ vc vp va t w hp hv (a := i) hi ⟨k0, k8⟩ hR).mono ?_, fun vn va w hf => (evalOf_ok f vn va t i w hf h ha hi).mono ?_⟩
  · rintro e w' ⟨v', he, ho, hb⟩
    refine ⟨v', he, ints_of_own (fun x hx => ?_) ho, hb⟩
    obtain ⟨cs, vo, _, hv2, _⟩ := hp.2.2.all (genP f.nodes (reachD f.nodes) f.answers).answers[i] (List.getElem_mem _)
    exact ints64 hv2 x hx
  · rintro e w' ⟨v', he, ho, hb⟩
    exact ⟨v', he, ints_of_own (h64 hf) ho, hb⟩
set_option maxRecDepth 100000 in
set_option maxHeartbeats 4000000 in
theorem walkCodeGens (vn va : Value) (f : Frs) (n : Int) (w : World) (hf : FrsAt w vn va f) (hn : I64 n) :
    Calls Try.prog 11 #[.agg #[vn, va], .int .i64 n] w fun e w' => e = .returned (.bool true) ∧ Below w.heap.size w w' := by
  have HF := Lib.hid hf
  have HN := Lib.hid hn
  obtain ⟨an, cn, rfl, ln⟩ := hf.1.shape
  clear hf hn ln
  have bw : Below w.heap.size w (w.alloc (.cells #[.slice an f.nodes.length cn, va] 34)) := (Below.refl _ _).alloc (Nat.le_refl _) _
  have bz : w.heap.size < (w.alloc (.cells #[.slice an f.nodes.length cn, va] 34)).heap.size := by rw [size_alloc]; omega
  have b0 : ∀ j, (w.alloc (.cells #[.slice an f.nodes.length cn, va] 34)).cell? ⟨w.heap.size, j, none⟩ = _ := fun j => World.cell?_alloc_at (w := w) _ _ w.heap.size j rfl
  have q0 := b0 0
  have q1 := b0 1
  clear b0
  by_cases h : frsE f = 0
  · have HE := Lib.hid h
    clear h
    go_enter Try.func11, Try.ntmps11
    go_wp2_with fail
    refine (gen_ok _ _ f _ (HF.out.mono bw) HE.out rfl).mono ?_; rintro r w1 (⟨vc, vp, vz, rfl, hP, s1, s2, hb1⟩ | ⟨rfl, hbig, hb1⟩)
    · have hz1 := Nat.lt_of_lt_of_le bz hb1.size
      have p0 := (hb1.cell (p := ⟨w.heap.size, 0, none⟩) bz).trans q0
      have p1 := (hb1.cell (p := ⟨w.heap.size, 1, none⟩) bz).trans q1
      have hw1 := bw.trans (hb1.mono bw.size)
      obtain ⟨ac, cc, rfl, -⟩ := hP.1.shape
      obtain ⟨ap, cp, rfl, -⟩ := hP.2.1.shape
      obtain ⟨az, cz, rfl, -⟩ := hP.2.2.shape
      have HP := Lib.hid hP
      have HS1 := Lib.hid s1
      have HS2 := Lib.hid s2
      have HW1 := Lib.hid hw1
      clear hP s1 s2 hb1 q0 q1 bz bw hw1
      generalize (genP f.nodes (reachD f.nodes) f.answers).code.length = lc at *
      generalize (genP f.nodes (reachD f.nodes) f.answers).pool.length = lp at *
      generalize (genP f.nodes (reachD f.nodes) f.answers).answers.length = lz at *
      have bA := (Below.refl w1.heap.size w1).alloc (Nat.le_refl _) (.cells #[.slice ac lc cc, .slice ap lp cp, .slice az lz cz] 58)
      have sA := size_alloc w1 (.cells #[.slice ac lc cc, .slice ap lp cp, .slice az lz cz] 58)
      have gA : ∀ j, (w1.alloc (.cells #[.slice ac lc cc, .slice ap lp cp, .slice az lz cz] 58)).cell? ⟨w1.heap.size, j, none⟩ = #[Value.slice ac lc cc, .slice ap lp cp, .slice az lz cz][j]? := fun j => World.cell?_alloc_at (w := w1) _ _ w1.heap.size j rfl
      have r0 := (bA.cell (p := ⟨w.heap.size, 0, none⟩) hz1).trans p0
      have r1 := (bA.cell (p := ⟨w.heap.size, 1, none⟩) hz1).trans p1
      have HBA := Lib.hid bA
      have HSA := Lib.hid sA
      have HGA := Lib.hid gA
      have hzA : w.heap.size < (w1.alloc (.cells #[.slice ac lc cc, .slice ap lp cp, .slice az lz cz] 58)).heap.size := by omega
      clear bA sA gA p0 p1
      go_wp2_with fail
      have hw2 := HW1.out.trans (HBA.out.mono HW1.out.size)
      refine (fault_lit f _ _ _ (HF.out.mono hw2) HE.out).mono ?_; rintro r w3 ⟨rfl, hb3⟩
      have s0 := (hb3.cell (p := ⟨w.heap.size, 0, none⟩) hzA).trans r0
      have s1 := (hb3.cell (p := ⟨w.heap.size, 1, none⟩) hzA).trans r1
      have hzG : w1.heap.size < (w1.alloc (.cells #[.slice ac lc cc, .slice ap lp cp, .slice az lz cz] 58)).heap.size := by rw [HSA.out]; omega
      have gj : ∀ j, w3.cell? ⟨w1.heap.size, j, none⟩ = #[Value.slice ac lc cc, .slice ap lp cp, .slice az lz cz][j]? := fun j => (hb3.cell (p := ⟨w1.heap.size, j, none⟩) hzG).trans (HGA.out j)
      have g0 : w3.cell? ⟨w1.heap.size, 0, none⟩ = some (.slice ac lc cc) := gj 0
      have g1 : w3.cell? ⟨w1.heap.size, 1, none⟩ = some (.slice ap lp cp) := gj 1
      have g2 : w3.cell? ⟨w1.heap.size, 2, none⟩ = some (.slice az lz cz) := gj 2
      have hz3 : w.heap.size < w3.heap.size := Nat.lt_of_lt_of_le hzA hb3.size
      have hz4 : w1.heap.size < w3.heap.size := Nat.lt_of_lt_of_le hzG hb3.size
      have HW3 := Lib.hid (hw2.trans (hb3.mono hw2.size))
      have HP3 := Lib.hid ((HP.out.mono HBA.out).mono hb3)
      clear gj r0 r1 hw2 hb3 HBA HSA HGA HP hzA hzG hz1
      generalize w1.heap.size = G at *
      obtain ⟨z0, z8, -, -, -⟩ := frs_good HE.out
      have hr : Hid (f.nodes.length * 8 ≤ 140737488355320) := by show _ ≤ _; omega
      clear z0 z8
      go_wp2_with fail
      refine (bounds_any f _ _ _ (HF.out.mono HW3.out) hr.out).mono ?_; rintro e w4 ⟨v, xs, rfl, hv, hb4⟩
      have HV := Lib.hid hv
      have k0 := (hb4.cell (p := ⟨w.heap.size, 0, none⟩) hz3).trans s0
      have k1 := (hb4.cell (p := ⟨w.heap.size, 1, none⟩) hz3).trans s1
      have m0 := (hb4.cell (p := ⟨G, 0, none⟩) hz4).trans g0
      have m1 := (hb4.cell (p := ⟨G, 1, none⟩) hz4).trans g1
      have m2 := (hb4.cell (p := ⟨G, 2, none⟩) hz4).trans g2
      have hz5 := Nat.lt_of_lt_of_le hz3 hb4.size
      have hz6 := Nat.lt_of_lt_of_le hz4 hb4.size
      have HW4 := Lib.hid (HW3.out.trans (hb4.mono HW3.out.size))
      have HP4 := Lib.hid (HP3.out.mono hb4)
      clear hv s0 s1 g0 g1 g2 hb4 HP3 HW3 hz3 hz4
      go_wp2_with fail
      refine (asked_any v xs n _ HV.out HN.out).mono ?_; rintro e w' ⟨t, h64, rfl, rfl⟩
      obtain ⟨A, k, hA, hE, hO⟩ := gen_ex f HE.out HS1.out HS2.out t
      have HEX := Lib.hid hE
      have HO := Lib.hid hO
      have HA := Lib.hid hA
      clear hE hO h64 hA
      go_wp2_with fail
      refine (HEX.out _ _ _ _ HP4.out).mono ?_; rintro e w2 ⟨v2, rfl, hs2, hb2⟩
      obtain ⟨a2, c2, rfl, -⟩ := hs2.shape
      have HS2 := Lib.hid hs2
      have p0 := (hb2.cell (p := ⟨w.heap.size, 0, none⟩) hz5).trans k0
      have p1 := (hb2.cell (p := ⟨w.heap.size, 1, none⟩) hz5).trans k1
      have hz2 := Nat.lt_of_lt_of_le hz5 hb2.size
      have hw2 := HW4.out.trans (hb2.mono HW4.out.size)
      clear hs2 hb2 k0 k1 m0 m1 m2 hz5 hz6 HP4 HW4
      go_wp2_with fail
      have bx := (Below.refl w2.heap.size w2).alloc (Nat.le_refl _) (.cells #[.int .i64 A.ck.off, .bool A.ck.sav, .string A.ck.nm, .slice a2 A.offs.length c2, .int .i64 A.jump] 27)
      have hw3 := hw2.trans (bx.mono hw2.size)
      refine (HO.out _ _ _ (HF.out.mono hw3)).mono ?_; rintro e w3 ⟨v3, rfl, hs3, hb3⟩
      obtain ⟨a3, c3, rfl, -⟩ := hs3.shape
      have hxz : w2.heap.size < (w2.alloc (.cells #[.int .i64 A.ck.off, .bool A.ck.sav, .string A.ck.nm, .slice a2 A.offs.length c2, .int .i64 A.jump] 27)).heap.size := by rw [size_alloc]; omega
      have bj : ∀ j, (w2.alloc (.cells #[.int .i64 A.ck.off, .bool A.ck.sav, .string A.ck.nm, .slice a2 A.offs.length c2, .int .i64 A.jump] 27)).cell? ⟨w2.heap.size, j, none⟩ = _ := fun j => World.cell?_alloc_at (w := w2) _ _ w2.heap.size j rfl
      have j0 : w3.cell? ⟨w2.heap.size, 0, none⟩ = some (.int .i64 A.ck.off) := (hb3.cell (p := ⟨w2.heap.size, 0, none⟩) hxz).trans (bj 0)
      have j1 : w3.cell? ⟨w2.heap.size, 1, none⟩ = some (.bool A.ck.sav) := (hb3.cell (p := ⟨w2.heap.size, 1, none⟩) hxz).trans (bj 1)
      have j2 : w3.cell? ⟨w2.heap.size, 2, none⟩ = some (.string A.ck.nm) := (hb3.cell (p := ⟨w2.heap.size, 2, none⟩) hxz).trans (bj 2)
      have j3 : w3.cell? ⟨w2.heap.size, 3, none⟩ = some (.slice a2 A.offs.length c2) := (hb3.cell (p := ⟨w2.heap.size, 3, none⟩) hxz).trans (bj 3)
      have j4 : w3.cell? ⟨w2.heap.size, 4, none⟩ = some (.int .i64 A.jump) := (hb3.cell (p := ⟨w2.heap.size, 4, none⟩) hxz).trans (bj 4)
      have jz : w2.heap.size < w3.heap.size := Nat.lt_of_lt_of_le hxz hb3.size
      have hw4 := hw3.trans (hb3.mono hw3.size)
      have HS3 := Lib.hid hs3
      have HS2' := Lib.hid ((HS2.out.mono bx fun _ _ h => h).mono hb3 fun _ _ h => h)
      clear bj hxz hs3 HS2 hb3 bx hw3 HEX HO p0 p1
      have by3 := (Below.refl w3.heap.size w3).alloc (Nat.le_refl _) (.cells #[.int .i64 A.ck.off, .bool A.ck.sav, .string A.ck.nm, .slice a3 A.offs.length c3, .int .i64 A.jump] 27)
      go_wp2_with fail
      refine (sameAnswer_same A _ _ _ (HS2'.out.mono by3 fun _ _ h => h) (HS3.out.mono by3 fun _ _ h => h) HA.out).mono ?_; rintro e w5 ⟨rfl, hb5⟩
      have hw5 := (hw4.trans (by3.mono hw4.size)).trans (hb5.mono (Nat.le_trans hw4.size by3.size))
      go_wp2
      go_ret
      exact ⟨rfl, hw5⟩
    · have hz1 := Nat.lt_of_lt_of_le bz hb1.size
      have p0 := (hb1.cell (p := ⟨w.heap.size, 0, none⟩) bz).trans q0
      have p1 := (hb1.cell (p := ⟨w.heap.size, 1, none⟩) bz).trans q1
      have hw1 := bw.trans (hb1.mono bw.size)
      have HW1 := Lib.hid hw1
      have hbi : (1000 : Int) < (f.nodes.length : Int) := by omega
      have HBI := Lib.hid hbi
      clear hb1 q0 q1 bz bw hw1 hbig hbi
      have bA := (Below.refl w1.heap.size w1).alloc (Nat.le_refl _) (.cells #[.slice none 0 0, .slice none 0 0, .slice none 0 0] 58)
      have sA := size_alloc w1 (.cells #[.slice none 0 0, .slice none 0 0, .slice none 0 0] 58)
      have r0 := (bA.cell (p := ⟨w.heap.size, 0, none⟩) hz1).trans p0
      have r1 := (bA.cell (p := ⟨w.heap.size, 1, none⟩) hz1).trans p1
      have HBA := Lib.hid bA
      have hzA : w.heap.size < (w1.alloc (.cells #[.slice none 0 0, .slice none 0 0, .slice none 0 0] 58)).heap.size := by omega
      clear bA sA p0 p1
      go_wp2_with fail
      have hw2 := HW1.out.trans (HBA.out.mono HW1.out.size)
      refine (fault_lit f _ _ _ (HF.out.mono hw2) HE.out).mono ?_; rintro r w3 ⟨rfl, hb3⟩
      have s0 := (hb3.cell (p := ⟨w.heap.size, 0, none⟩) hzA).trans r0
      have s1 := (hb3.cell (p := ⟨w.heap.size, 1, none⟩) hzA).trans r1
      have hz3 : w.heap.size < w3.heap.size := Nat.lt_of_lt_of_le hzA hb3.size
      have HW3 := Lib.hid (hw2.trans (hb3.mono hw2.size))
      have hbi := HBI.out
      clear r0 r1 hw2 hb3 HBA hzA hz1
      go_wp2_with fail
      go_ret
      exact ⟨rfl, HW3.out⟩
  · obtain ⟨e0, he0⟩ : ∃ e0, frsE f = e0 := ⟨_, rfl⟩
    rw [he0] at h
    have HE := Lib.hid he0
    clear he0
    go_enter Try.func11, Try.ntmps11
    go_wp2_with fail
    refine (gen_bad _ _ f _ (HF.out.mono bw) HE.out h).mono ?_; rintro r w1 ⟨rfl, hb1⟩
    have hz1 := Nat.lt_of_lt_of_le bz hb1.size
    have p0 := (hb1.cell (p := ⟨w.heap.size, 0, none⟩) bz).trans q0
    have p1 := (hb1.cell (p := ⟨w.heap.size, 1, none⟩) bz).trans q1
    have hw1 := bw.trans (hb1.mono bw.size)
    have HW1 := Lib.hid hw1
    clear hb1 q0 q1 bz bw hw1
    have bA := (Below.refl w1.heap.size w1).alloc (Nat.le_refl _) (.cells #[.slice none 0 0, .slice none 0 0, .slice none 0 0] 58)
    have sA := size_alloc w1 (.cells #[.slice none 0 0, .slice none 0 0, .slice none 0 0] 58)
    have gA : (w1.alloc (.cells #[.slice none 0 0, .slice none 0 0, .slice none 0 0] 58)).cell? ⟨w1.heap.size, 0, none⟩ = some (.slice none 0 0) := World.cell?_alloc_at (w := w1) _ _ w1.heap.size 0 rfl
    have r0 := (bA.cell (p := ⟨w.heap.size, 0, none⟩) hz1).trans p0
    have r1 := (bA.cell (p := ⟨w.heap.size, 1, none⟩) hz1).trans p1
    have HBA := Lib.hid bA
    have HGA := Lib.hid gA
    have hzA : w.heap.size < (w1.alloc (.cells #[.slice none 0 0, .slice none 0 0, .slice none 0 0] 58)).heap.size := by omega
    have HZG : Hid (w1.heap.size < (w1.alloc (.cells #[.slice none 0 0, .slice none 0 0, .slice none 0 0] 58)).heap.size) := by show _ < _; omega
    clear bA sA p0 p1 gA
    go_wp2_with fail
    have hw2 := HW1.out.trans (HBA.out.mono HW1.out.size)
    refine (fault_lit f _ _ _ (HF.out.mono hw2) HE.out).mono ?_; rintro r w3 ⟨rfl, hb3⟩
    have g0 := (hb3.cell (p := ⟨w1.heap.size, 0, none⟩) HZG.out).trans HGA.out
    have HW3 := Lib.hid (hw2.trans (hb3.mono hw2.size))
    have hz4 := Nat.lt_of_lt_of_le HZG.out hb3.size
    clear r0 r1 hw2 hb3 HBA hzA hz1 HZG HGA
    generalize w1.heap.size = G at *
    go_wp2_with fail
    go_ret
    exact ⟨rfl, HW3.out⟩
end Go.Proofs.Ytpnmaopompfalaa
