/-
  How many steps a run makes: no more than the verifier says.
  The law ProgramsTell.
-/
import Derived.Test.YtlhidbbphngpcaaCodL
import Derived.Test.YtlhidbbphngpcaaPrT
import Derived.Test.YtlhidbbphngpcaaCodN
namespace Go.Proofs.Ytlhidbbphngpcaa
set_option linter.unusedVariables false
set_option linter.unusedSimpArgs false
open Go.ChangeShapes Go.WideShapes Go.ChangeAt Go.RowKit

theorem rn_lt {p : Prg} {t : Int} {i : Nat} {l : List Int} {s : Int} {a : Nat} {k : Int} (h : Rn p t i l s a k) : i < p.code.length := by
  cases h <;> assumption
theorem sl_next {p : Prg} (h0 : ∀ x ∈ p.code, 0 ≤ x.n) {i j : Nat} (hi : i < p.code.length) (hj : j < p.code.length) (hm : (j : Int) ∈ nextI i p.code[i]) : gI (sl p.code p.code.length) j + 1 ≤ gI (sl p.code p.code.length) i := by
  rw [sl_at p.code i hi h0]
  have := (best_ge (sl p.code p.code.length) p.code.length (nextI i p.code[i]) 0).2.1 j hm (by omega)
  omega
theorem rn_steps {p : Prg} (h0 : ∀ x ∈ p.code, 0 ≤ x.n) {t : Int} {i : Nat} {l : List Int} {s : Int} {a : Nat} {k : Int} (h : Rn p t i l s a k) : s + 1 ≤ k ∧ k ≤ s + gI (sl p.code p.code.length) i := by
  induction h with
  | @tell i l s a hi ho hn ha h8 hs =>
    rw [sl_at p.code i hi h0]
    have := (best_ge (sl p.code p.code.length) p.code.length (nextI i p.code[i]) 0).1
    omega
  | @arg i l s a k hi ho h8 hs h ih =>
    have := sl_next h0 hi (rn_lt h) (by simp [nextI, ho])
    omega
  | @push i l s a k m hi ho hn hm h8 hs h ih =>
    have := sl_next h0 hi (rn_lt h) (by simp [nextI, ho])
    omega
  | @less i l s a k x y hi ho h8 hs h ih =>
    have := sl_next h0 hi (rn_lt h) (by simp [nextI, ho])
    omega
  | @skip i l s a k v m hi ho hn h8 hs h ih =>
    have := sl_next h0 hi (rn_lt h) (by
      have e : nextI i p.code[i] = [(i : Int) + 1, (i : Int) + 1 + m] := by unfold nextI; simp [ho, hn]
      rw [e]
      by_cases hv : v = 0 <;> simp [hv])
    omega
  | @go i l s a k m hi ho hn h8 hs h ih =>
    have := sl_next h0 hi (rn_lt h) (by simp [nextI, ho, hn])
    omega
/-- what a program that may be run says of itself. -/
theorem ver_says {p : Prg} {a b : Int} (h : verE p = (a, b, 0)) {t : Int} {i : Nat} {k : Int} (hR : Rn p t 0 [] 0 i k) : 1 ≤ k ∧ k ≤ a ∧ b ≤ 8 := by
  obtain ⟨hg, st, hs⟩ := ver_zero h
  obtain ⟨g0, g1, _, _, _, _⟩ := prg_good hg
  have hn : ∀ x ∈ p.code, 0 ≤ x.n := fun x hx => by
    obtain ⟨i, hi, rfl⟩ := List.mem_iff_getElem.1 hx
    exact (ins_n8 hg hi).2.1
  obtain ⟨i1, _, _⟩ := scan_all g0 hn _ _ (Nat.le_refl _) hs
  have := i1.s8
  have hr := rn_steps hn hR
  unfold verE at h
  rw [if_neg (by rw [hg]; simp), hs] at h
  simp only [Prod.mk.injEq] at h
  obtain ⟨rfl, rfl, _⟩ := h
  have e : gI (sl p.code p.code.length) 0 = gI (sl p.code p.code.length) ((0 : Nat) : Int) := rfl
  omega
end Go.Proofs.Ytlhidbbphngpcaa
namespace Go.Proofs.Ytlhidbbphngpcaa
set_option linter.unusedVariables false
set_option linter.unusedSimpArgs false
open Go.ChangeShapes Go.WideShapes Go.ChangeAt Go.RowKit

/-- what the program and the forest of raw things answer, both; and what the program says of itself. -/
theorem pg_ex {xs : List Rw} {g : Frs} (h : PgOf xs g) (t : Int) (ht : I64 t) : ∃ (A : Ans) (k x y : Int), A.ck.nm.size ≤ maxLen ∧ (1 ≤ k ∧ k ≤ x ∧ y ≤ 8) ∧
    (∀ (vc vp va : Value) (w : World), PrgAt w vc vp va (genP g.nodes (reachD g.nodes) g.answers) → Calls Try.prog 31 #[.agg #[vc, vp, va], .int .i64 t] w fun e w' => ∃ a c, e = .returned (.tuple #[.agg #[.int .i64 A.ck.off, .bool A.ck.sav, .string A.ck.nm, .slice a A.offs.length c, .int .i64 A.jump], .int .i64 k, .int .i64 0]) ∧ SlAt w' 1 RInt (.slice a A.offs.length c) A.offs ∧ Below w.heap.size w w') ∧
    (∀ (vn va : Value) (w : World), FrsAt w vn va (frst xs) → Calls Try.prog 20 #[.agg #[vn, va], .int .i64 t] w fun e w' => ∃ a c, e = .returned (.tuple #[.agg #[.int .i64 A.ck.off, .bool A.ck.sav, .string A.ck.nm, .slice a A.offs.length c, .int .i64 A.jump], .int .i64 0]) ∧ SlAt w' 1 RInt (.slice a A.offs.length c) A.offs ∧ Below w.heap.size w w') ∧
    (∀ (vc vp va : Value) (w : World), PrgAt w vc vp va (genP g.nodes (reachD g.nodes) g.answers) → Calls Try.prog 32 #[.agg #[vc, vp, va]] w fun e w' => e = .returned (.tuple #[.int .i64 x, .int .i64 y, .int .i64 0]) ∧ Below w.heap.size w w') := by
  obtain ⟨F, m, s, b, hT, hg⟩ := h.ex
  obtain ⟨f0, f1, f2, f3, f4⟩ := frs_good h.fok
  obtain ⟨g0, g1, g2, g3, g4⟩ := frs_good h.ok
  have hF := hT.lt t
  have hi : (F t).toNat < (frst xs).answers.length := by omega
  have hL := hT.lf t
  rw [show F t = (((F t).toNat : Nat) : Int) by omega] at hL
  obtain ⟨j, n, hP, ⟨hj, hA⟩, -⟩ := hg.tells hT (t := t) (i64_ge ht)
  have hak := reach_ok (frs_chl h.ok)
  have hrt := reach_root (ns := g.nodes) g0
  obtain ⟨x, y, hv⟩ := gen_good g (reachD g.nodes) h.ok hak hrt h.s1 h.s2
  obtain ⟨k, hR, k0, k8⟩ := gen_run g (reachD g.nodes) hak g0 hrt h.s1 (lp_lf hP) hj
  have hs := (ansE_offs (g3 j hj)).2
  have h64 : ∀ {w : World} {vn va : Value} {q : Frs}, FrsAt w vn va q → ∀ A ∈ q.answers, ∀ x ∈ A.offs, I64 x := fun hf A hm x hx => by
    obtain ⟨cs, vo, _, hv, _⟩ := hf.2.all _ hm
    exact ints64 hv x hx
  refine ⟨g.answers[j], k, x, y, by unfold maxLen; omega, ver_says hv hR, fun vc vp va w hp => (run_ok _ vc vp va t w hp hv (a := j) hj ⟨k0, k8⟩ hR).mono ?_, fun vn va w hf => ?_, fun vc vp va w hp => verify_any _ vc vp va w hp hv⟩
  · rintro e w' ⟨v', he, ho, hb⟩
    obtain ⟨a, c, rfl⟩ := own_shape ho
    refine ⟨a, c, he, ints_of_own (fun x hx => ?_) ho, hb⟩
    obtain ⟨cs, vo, _, hv2, _⟩ := hp.2.2.all (genP g.nodes (reachD g.nodes) g.answers).answers[j] (List.getElem_mem _)
    exact ints64 hv2 x hx
  · have := eval_ok (frst xs) vn va t _ w hf h.fok hL hi
    rw [← hA] at this
    refine this.mono ?_
    rintro e w' ⟨v', he, ho, hb⟩
    obtain ⟨a, c, rfl⟩ := own_shape ho
    exact ⟨a, c, he, ints_of_own (h64 hf _ (by rw [hA]; exact List.getElem_mem hi)) ho, hb⟩
set_option maxRecDepth 100000 in
set_option maxHeartbeats 4000000 in
theorem walkProgramsTell (v : Value) (xs : List Rw) (ways n : Int) (W : World) (hv : SlAt W 4 RRw v xs) (hw : (Lit.int .i64 ways).wf = true) (hn : (Lit.int .i64 n).wf = true) :
    Calls Try.prog 8 #[v, .int .i64 ways, .int .i64 n] W fun e w' => e = .returned (.bool true) ∧ Below W.heap.size W w' := by
  have HPR := Lib.hid (program_any v xs ways W hv hw)
  have HV := Lib.hid (fun w (hb : Below W.heap.size W w) => forest_is v xs w (hv.mono hb fun _ _ h => h))
  have HP := Lib.hid (fun w => picked_v n 80 w hn (by omega) (by omega))
  obtain ⟨pb0, pb1⟩ := pkv_bd n 80 (by omega)
  obtain ⟨an, cn, rfl, ln⟩ := hv.shape
  clear hv hn hw ln
  generalize pkv n 80 = q at *
  go_enter Try.func8, Try.ntmps8
  go_wp2_with fail
  refine HPR.out.mono ?_; rintro e w1 ⟨vc, vp, vz, g, rfl, hpg, hp, hb1⟩
  clear HPR
  obtain ⟨A, k, x, y, hA, ⟨k1, kx, y8⟩, hR, hE, hVf⟩ := pg_ex hpg (q - 30) (i64_of (by omega) (by omega))
  have HR := Lib.hid hR
  have HE := Lib.hid hE
  have HVF := Lib.hid hVf
  have HA := Lib.hid hA
  have HKX := Lib.hid kx
  obtain ⟨ac, cc, e1, -⟩ := hp.1.shape
  obtain ⟨ap, cp, e2, -⟩ := hp.2.1.shape
  obtain ⟨az, cz, e3, -⟩ := hp.2.2.shape
  subst e1 e2 e3
  have HPP := Lib.hid hp
  clear hR hE hVf hA hp
  generalize hP : genP g.nodes (reachD g.nodes) g.answers = P at *
  clear hP
  have hbx : Below w1.heap.size w1 (w1.alloc (.cells #[.slice ac P.code.length cc, .slice ap P.pool.length cp, .slice az P.answers.length cz] 68)) := (Below.refl _ _).alloc (Nat.le_refl _) _
  have X1 := Lib.hid (PBx.new w1 (.slice ac P.code.length cc) (.slice ap P.pool.length cp) (.slice az P.answers.length cz) 68)
  have B1 := Lib.hid (hb1.trans (hbx.mono hb1.size))
  have P1 := Lib.hid (HPP.out.mono hbx)
  clear hb1 hbx HPP
  obtain ⟨x0, x1, x2, -, x4⟩ := X1.out
  go_wp2_with fail
  refine (HP.out _).mono ?_; rintro e w' ⟨rfl, rfl⟩
  go_wp2_with fail
  generalize w1.alloc (.cells #[.slice ac P.code.length cc, .slice ap P.pool.length cp, .slice az P.answers.length cz] 68) = w2 at *
  generalize w1.heap.size = O1 at *
  refine (HR.out _ _ _ _ P1.out).mono ?_; rintro e w3 ⟨a3, c3, rfl, hs3, hb3⟩
  have X3 := Lib.hid (X1.out.next hb3)
  have B3 := Lib.hid (B1.out.trans (hb3.mono B1.out.size))
  have P3 := Lib.hid (P1.out.mono hb3)
  have S3 := Lib.hid hs3
  clear hs3 hb3 x0 x1 x2 x4 X1 B1 P1 HP
  have bx := (Below.refl w3.heap.size w3).alloc (Nat.le_refl _) (.cells #[.int .i64 A.ck.off, .bool A.ck.sav, .string A.ck.nm, .slice a3 A.offs.length c3, .int .i64 A.jump] 39)
  have AB := Lib.hid (AnBx.new w3 A (.slice a3 A.offs.length c3))
  have X4 := Lib.hid (X3.out.next bx)
  have B4 := Lib.hid (B3.out.trans (bx.mono B3.out.size))
  have P4 := Lib.hid (P3.out.mono bx)
  have S4 := Lib.hid (S3.out.mono bx fun _ _ h => h)
  clear bx X3 B3 P3 S3
  go_wp2_with fail
  generalize w3.alloc (.cells #[.int .i64 A.ck.off, .bool A.ck.sav, .string A.ck.nm, .slice a3 A.offs.length c3, .int .i64 A.jump] 39) = w4 at *
  generalize w3.heap.size = O3 at *
  refine (HV.out _ B4.out).mono ?_; rintro e w5 ⟨vn, va, f, rfl, hf, ⟨-, -, rfl⟩, hb5⟩
  obtain ⟨nn, cnn, e1, -⟩ := hf.1.shape
  obtain ⟨na, cna, e2, -⟩ := hf.2.shape
  subst e1 e2
  have AB5 := Lib.hid (AB.out.below hb5 AB.out.2)
  have X5 := Lib.hid (X4.out.next hb5)
  have B5 := Lib.hid (B4.out.trans (hb5.mono B4.out.size))
  have P5 := Lib.hid (P4.out.mono hb5)
  have S5 := Lib.hid (S4.out.mono hb5 fun _ _ h => h)
  have HC := Lib.hid (HE.out _ _ w5 hf)
  clear hf hb5 AB X4 B4 P4 S4 HE HR
  go_wp2_with fail
  refine HC.out.mono ?_; rintro e w6 ⟨a6, c6, rfl, hs6, hb6⟩
  have AB6 := Lib.hid (AB5.out.below hb6 AB5.out.2)
  have X6 := Lib.hid (X5.out.next hb6)
  have B6 := Lib.hid (B5.out.trans (hb6.mono B5.out.size))
  have P6 := Lib.hid (P5.out.mono hb6)
  have S6 := Lib.hid (S5.out.mono hb6 fun _ _ h => h)
  have T6 := Lib.hid hs6
  clear hs6 hb6 AB5 X5 B5 P5 S5 HC HV
  have bx := (Below.refl w6.heap.size w6).alloc (Nat.le_refl _) (.cells #[.int .i64 A.ck.off, .bool A.ck.sav, .string A.ck.nm, .slice a6 A.offs.length c6, .int .i64 A.jump] 39)
  have AC7 := Lib.hid (AnBx.new w6 A (.slice a6 A.offs.length c6))
  have AB7 := Lib.hid (AB6.out.below bx AB6.out.2)
  have X7 := Lib.hid (X6.out.next bx)
  have B7 := Lib.hid (B6.out.trans (bx.mono B6.out.size))
  have P7 := Lib.hid (P6.out.mono bx)
  have S7 := Lib.hid (S6.out.mono bx fun _ _ h => h)
  have T7 := Lib.hid (T6.out.mono bx fun _ _ h => h)
  clear bx AB6 X6 B6 P6 S6 T6
  obtain ⟨x0, x1, x2, -, x4⟩ := X7.out
  go_wp2_with fail
  generalize w6.alloc (.cells #[.int .i64 A.ck.off, .bool A.ck.sav, .string A.ck.nm, .slice a6 A.offs.length c6, .int .i64 A.jump] 39) = w7 at *
  generalize w6.heap.size = O6 at *
  refine (HVF.out _ _ _ _ P7.out).mono ?_; rintro e w8 ⟨rfl, hb8⟩
  have AC8 := Lib.hid (AC7.out.below hb8 AC7.out.2)
  have AB8 := Lib.hid (AB7.out.below hb8 AB7.out.2)
  have B8 := Lib.hid (B7.out.trans (hb8.mono B7.out.size))
  have S8 := Lib.hid (S7.out.mono hb8 fun _ _ h => h)
  have T8 := Lib.hid (T7.out.mono hb8 fun _ _ h => h)
  clear hb8 x0 x1 x2 x4 AC7 AB7 X7 B7 P7 S7 T7 HVF
  obtain ⟨⟨p0, p1, p2, p3, p4⟩, hpz⟩ := AB8.out
  obtain ⟨⟨r0, r1, r2, r3, r4⟩, hrz⟩ := AC8.out
  have kx := HKX.out
  go_wp2_with fail
  refine (kfsame_any A A _ _ _ S8.out T8.out).mono ?_; rintro e w9 ⟨r, rfl, hr, hb9⟩
  obtain rfl := hr rfl
  have B9 := Lib.hid (B8.out.trans (hb9.mono B8.out.size))
  clear hb9 hr
  go_wp2_with fail
  go_ret
  exact ⟨rfl, B9.out⟩
end Go.Proofs.Ytlhidbbphngpcaa
