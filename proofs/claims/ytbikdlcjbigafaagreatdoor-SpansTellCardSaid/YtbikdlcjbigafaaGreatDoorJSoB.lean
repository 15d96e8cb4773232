/-
  A source of raw things: each of its lines is read.
-/
import Derived.Test.YtbikdlcjbigafaaGreatDoorJSoA
namespace Go.Proofs.YtbikdlcjbigafaaGreatDoor
set_option linter.unusedVariables false
set_option linter.unusedSimpArgs false
open Go.ChangeShapes Go.WideShapes Go.ChangeAt Go.RowKit Civ

theorem pkz_bd (n many : Int) (h : 0 < many) : 0 ≤ pkz n many ∧ pkz n many < many := ⟨Int.emod_nonneg _ (by omega), Int.emod_lt_of_pos _ h⟩
theorem nat_of {a m : Int} (h : 0 ≤ a ∧ a < m) : ∃ k : Nat, a = (k : Int) ∧ k < m.toNat := ⟨a.toNat, by omega, by omega⟩
theorem all_of {p : Nat → Bool} {n : Nat} (h : (List.range n).all p = true) {k : Nat} (hk : k < n) : p k = true := List.all_eq_true.1 h k (List.mem_range.2 hk)
set_option maxRecDepth 100000 in
theorem yrK : ((List.range 200).all fun i => decide (yrS (bx (Lib.itoa (1900 + (i : Int)))) = (1900 + (i : Int), 0)) && wok (Lib.itoa (1900 + (i : Int)))) = true := by decide +kernel
theorem yr_ok {n : Int} (h : 1900 ≤ n ∧ n ≤ 2099) : yrS (bx (Lib.itoa n)) = (n, 0) ∧ wok (Lib.itoa n) = true := by
  obtain ⟨k, hk, hl⟩ := nat_of (a := n - 1900) (m := 200) (by omega)
  have := all_of yrK (k := k) hl
  rw [show 1900 + (k : Int) = n by omega, Bool.and_eq_true, decide_eq_true_eq] at this
  exact this
theorem monK : ((List.range 12).all fun i => decide ((monS (bx (picL monL (i : Int)))).2 = 0) && wok (picL monL (i : Int))) = true := by decide +kernel
theorem mon_ok (n : Int) : (monS (bx (monT n))).2 = 0 ∧ wok (monT n) = true := by
  obtain ⟨k, hk, hl⟩ := nat_of (pkz_bd n 12 (by decide))
  have := all_of monK (k := k) hl
  unfold monT
  rw [hk]
  rw [Bool.and_eq_true, decide_eq_true_eq] at this
  exact this
set_option maxRecDepth 100000 in
theorem dayK : ((List.range 4).all fun k => (List.range 7).all fun w => (List.range 28).all fun d => decide ((dyS (bx (dayG (k : Int) (w : Int) (1 + (d : Int))))).2 = 0) && wok (dayG (k : Int) (w : Int) (1 + (d : Int)))) = true := by decide +kernel
theorem day_ok (n : Int) : (dyS (bx (dayT n))).2 = 0 ∧ wok (dayT n) = true := by
  obtain ⟨k, hk, hl⟩ := nat_of (pkz_bd n 4 (by decide))
  obtain ⟨w, hw, hm⟩ := nat_of (pkz_bd (n.tdiv 4) 7 (by decide))
  obtain ⟨d, hd, hn⟩ := nat_of (pkz_bd (n.tdiv 28) 28 (by decide))
  have := all_of (all_of (all_of dayK (k := k) hl) (k := w) hm) (k := d) hn
  unfold dayT
  rw [hk, hw, hd]
  rw [Bool.and_eq_true, decide_eq_true_eq] at this
  exact this
set_option maxRecDepth 100000 in
theorem hrsK : ((List.range 4).all fun s => (List.range 4).all fun h => (List.range 3).all fun q => (List.range 60).all fun m => decide ((tmS (bx (hrsG (h : Int) (q : Int) (m : Int) ++ picL sfxL (s : Int)))).2 = 0) && wok (hrsG (h : Int) (q : Int) (m : Int) ++ picL sfxL (s : Int))) = true := by decide +kernel
theorem hrs_ok (n s : Int) (hs : 0 ≤ s ∧ s < 4) : (tmS (bx (hrsT n ++ picL sfxL s))).2 = 0 ∧ wok (hrsT n ++ picL sfxL s) = true := by
  obtain ⟨k, hk, hl⟩ := nat_of hs
  obtain ⟨h, hh, hm⟩ := nat_of (pkz_bd n 4 (by decide))
  obtain ⟨q, hq, hn⟩ := nat_of (pkz_bd (n.tdiv 4) 4 (by decide))
  obtain ⟨m, hmm, ho⟩ := nat_of (pkz_bd (n.tdiv 16) 60 (by decide))
  unfold hrsT
  rw [hk, hh, hq, hmm]
  by_cases h3 : q < 3
  · have := all_of (all_of (all_of (all_of hrsK (k := k) hl) (k := h) hm) (k := q) h3) (k := m) ho
    rw [Bool.and_eq_true, decide_eq_true_eq] at this
    exact this
  · obtain rfl : q = 3 := by have : q < 4 := hn; omega
    have := all_of (all_of (all_of (all_of hrsK (k := k) hl) (k := h) hm) (k := 2) (by decide)) (k := m) ho
    rw [Bool.and_eq_true, decide_eq_true_eq] at this
    exact this
theorem hrs_bare (n : Int) : (tmS (bx (hrsT n))).2 = 0 ∧ wok (hrsT n) = true := by
  have := hrs_ok n 0 (by decide)
  rw [show picL sfxL 0 = [] from rfl, List.append_nil] at this
  exact this
theorem savK : ((List.range 6).all fun i => decide ((offS (bx (picL savL (i : Int)))).2 = 0) && wok (picL savL (i : Int))) = true := by decide +kernel
theorem sav_ok (n : Int) : (offS (bx (picL savL (pkz n 6)))).2 = 0 ∧ wok (picL savL (pkz n 6)) = true := by
  obtain ⟨k, hk, hl⟩ := nat_of (pkz_bd n 6 (by decide))
  have := all_of savK (k := k) hl
  rw [hk]
  rw [Bool.and_eq_true, decide_eq_true_eq] at this
  exact this
theorem offK : ((List.range 6).all fun i => decide ((offS (bx (picL offL (i : Int)))).2 = 0) && wok (picL offL (i : Int))) = true := by decide +kernel
theorem off_ok (n : Int) : (offS (bx (picL offL (pkz n 6)))).2 = 0 ∧ wok (picL offL (pkz n 6)) = true := by
  obtain ⟨k, hk, hl⟩ := nat_of (pkz_bd n 6 (by decide))
  have := all_of offK (k := k) hl
  rw [hk]
  rw [Bool.and_eq_true, decide_eq_true_eq] at this
  exact this
theorem letK : ((List.range 4).all fun i => (decide (bx (picL letL (i : Int)) = dashS) || letsB (bx (picL letL (i : Int)))) && wok (picL letL (i : Int))) = true := by decide +kernel
theorem let_ok (n : Int) : ¬ (bx (picL letL (pkz n 4)) ≠ dashS ∧ letsB (bx (picL letL (pkz n 4))) = false) ∧ wok (picL letL (pkz n 4)) = true := by
  obtain ⟨k, hk, hl⟩ := nat_of (pkz_bd n 4 (by decide))
  have := all_of letK (k := k) hl
  rw [hk]
  rw [Bool.and_eq_true, Bool.or_eq_true, decide_eq_true_eq] at this
  refine ⟨?_, this.2⟩
  rintro ⟨h1, h2⟩
  rcases this.1 with h | h
  · exact h1 h
  · rw [h] at h2; cases h2
theorem rnmK : ((List.range 2).all fun i => nameS (bx (picL rnmL (i : Int))) && wok (picL rnmL (i : Int))) = true := by decide +kernel
theorem rnm_ok (n : Int) : nameS (bx (picL rnmL (pkz n 2))) = true ∧ wok (picL rnmL (pkz n 2)) = true := by
  obtain ⟨k, hk, hl⟩ := nat_of (pkz_bd n 2 (by decide))
  have := all_of rnmK (k := k) hl
  rw [hk]
  rw [Bool.and_eq_true] at this
  exact this
def er1W (s : ByteArray) : Int := if s = dashS then 0 else if digB (byI s 0) = true ∨ byI s 0 = 45 then (offS s).2 else if nameS s = false then 4 else 0
theorem rlsK : ((List.range 4).all fun i => decide (er1W (bx (picL rlsL (i : Int))) = 0) && wok (picL rlsL (i : Int))) = true := by decide +kernel
theorem rls_ok (n : Int) : er1W (bx (picL rlsL (pkz n 4))) = 0 ∧ wok (picL rlsL (pkz n 4)) = true := by
  obtain ⟨k, hk, hl⟩ := nat_of (pkz_bd n 4 (by decide))
  have := all_of rlsK (k := k) hl
  rw [hk]
  rw [Bool.and_eq_true, decide_eq_true_eq] at this
  exact this
theorem fmtK : ((List.range 5).all fun i => fmtL (picL fmtT (i : Int)) && wok (picL fmtT (i : Int))) = true := by decide +kernel
theorem fmt_ok (n : Int) : fmtL (picL fmtT (pkz n 5)) = true ∧ wok (picL fmtT (pkz n 5)) = true := by
  obtain ⟨k, hk, hl⟩ := nat_of (pkz_bd n 5 (by decide))
  have := all_of fmtK (k := k) hl
  rw [hk]
  rw [Bool.and_eq_true] at this
  exact this
theorem to_ok (x : Rz) : wok (toT x) = true ∧ ∀ (f : ByteArray), yrS f = (yrT x.ra, 0) → (if bx (toT x) = bx [111, 110, 108, 121] then ((yrS f).1, 0) else if bx (toT x) = bx [109, 97, 120] then (2099, 0) else yrS (bx (toT x))).2 = 0 ∧ yrT x.ra ≤ (if bx (toT x) = bx [111, 110, 108, 121] then ((yrS f).1, 0) else if bx (toT x) = bx [109, 97, 120] then (2099, 0) else yrS (bx (toT x))).1 := by
  have hb := pkz_bd x.ra 190 (by decide)
  have hc := pkz_bd x.rb 40 (by decide)
  have hy : 1905 ≤ yrT x.ra ∧ yrT x.ra < 2095 := by unfold yrT; omega
  have hm := yr_ok (n := min (yrT x.ra + pkz x.rb 40) 2099) (by omega)
  obtain ⟨k, hk, hl⟩ := nat_of (pkz_bd x.kd 3 (by decide))
  unfold toT
  rw [hk]
  have : k = 0 ∨ k = 1 ∨ k = 2 := by have : k < 3 := hl; omega
  rcases this with rfl | rfl | rfl
  · rw [show picL [[109, 97, 120], [111, 110, 108, 121], Lib.itoa (min (yrT x.ra + pkz x.rb 40) 2099)] ((0 : Nat) : Int) = [109, 97, 120] from rfl]
    refine ⟨by decide +kernel, fun f hf => ?_⟩
    rw [if_neg (by decide +kernel), if_pos (by rfl)]
    exact ⟨rfl, by show _ ≤ (2099 : Int); omega⟩
  · rw [show picL [[109, 97, 120], [111, 110, 108, 121], Lib.itoa (min (yrT x.ra + pkz x.rb 40) 2099)] ((1 : Nat) : Int) = [111, 110, 108, 121] from rfl]
    refine ⟨by decide +kernel, fun f hf => ?_⟩
    rw [if_pos (by rfl), hf]
    exact ⟨rfl, Int.le_refl _⟩
  · obtain ⟨h1, h2⟩ := hm
    rw [show picL [[109, 97, 120], [111, 110, 108, 121], Lib.itoa (min (yrT x.ra + pkz x.rb 40) 2099)] ((2 : Nat) : Int) = Lib.itoa (min (yrT x.ra + pkz x.rb 40) 2099) from rfl]
    refine ⟨h2, fun f hf => ?_⟩
    split
    · rw [hf]; exact ⟨rfl, Int.le_refl _⟩
    · split
      · exact ⟨rfl, by show _ ≤ (2099 : Int); omega⟩
      · rw [h1]; exact ⟨rfl, by show _ ≤ min _ _; omega⟩
theorem yrT_bd (n : Int) : 1905 ≤ yrT n ∧ yrT n ≤ 2094 := by
  have hb := pkz_bd n 190 (by decide)
  unfold yrT; omega
/-- a rule's words are read. -/
theorem rul_ok (x : Rz) : (rulWs x).all wok = true ∧ rulS ((rulWs x).map bx) = 0 := by
  have h1 := rnm_ok (x.kd.tdiv 3)
  have h2 := yr_ok (n := yrT x.ra) (by have := yrT_bd x.ra; omega)
  have h3 := to_ok x
  have h5 := mon_ok x.rb
  have h6 := day_ok x.rc
  have h7 := hrs_ok x.ra (pkz x.ra 4) (pkz_bd _ _ (by decide))
  have h8 := sav_ok x.rc
  have h9 := let_ok x.rb
  refine ⟨?_, ?_⟩
  · simp only [rulWs, List.all_cons, List.all_nil, h1.2, h2.2, h3.1, h5.2, h6.2, h7.2, h8.2, h9.2, Bool.and_true, Bool.true_and]
    decide +kernel
  · have k3 := h3.2 (bx (Lib.itoa (yrT x.ra))) h2.1
    unfold rulS
    rw [if_neg (by rintro (h | h); exact h rfl; rw [show wAt ((rulWs x).map bx) 1 = bx (picL rnmL (pkz (x.kd.tdiv 3) 2)) from rfl, h1.1] at h; cases h)]
    rw [show wAt ((rulWs x).map bx) 2 = bx (Lib.itoa (yrT x.ra)) from rfl, show wAt ((rulWs x).map bx) 5 = bx (monT x.rb) from rfl, show wAt ((rulWs x).map bx) 6 = bx (dayT x.rc) from rfl, show wAt ((rulWs x).map bx) 7 = bx (hrsT x.ra ++ picL sfxL (pkz x.ra 4)) from rfl, show wAt ((rulWs x).map bx) 8 = bx (picL savL (pkz x.rc 6)) from rfl, show wAt ((rulWs x).map bx) 9 = bx (picL letL (pkz x.rb 4)) from rfl, show wAt ((rulWs x).map bx) 4 = dashS from rfl]
    rw [show toS ((rulWs x).map bx) = (if bx (toT x) = bx [111, 110, 108, 121] then ((yrS (bx (Lib.itoa (yrT x.ra)))).1, 0) else if bx (toT x) = bx [109, 97, 120] then (2099, 0) else yrS (bx (toT x))) from rfl]
    rw [if_neg (by rw [h2.1]; simp), if_neg (by rw [k3.1]; simp), if_neg (by have k4 := k3.2; rw [h2.1] at k4 ⊢; show ¬ _ < yrT x.ra; omega), if_neg (by simp), if_neg (by rw [h5.1]; simp), if_neg (by rw [h6.1]; simp), if_neg (by rw [h7.1]; simp), if_neg (by rw [h8.1]; simp), if_neg h9.1]
theorem fix_ok : (fixWs.all fun ws => ws.all wok && decide (rulS (ws.map bx) = 0)) = true := by decide +kernel
/-- an era's words are read. -/
theorem era_last (x : Rz) : (eraWs x).all wok = true ∧ erE ((eraWs x).map bx) = 0 ∧ (erV ((eraWs x).map bx)).en = false := by
  have h0 := off_ok x.kd
  have h1 := rls_ok (x.kd.tdiv 6)
  have h2 := fmt_ok x.rb
  refine ⟨?_, ?_, rfl⟩
  · simp only [eraWs, List.all_cons, List.all_nil, h0.2, h1.2, h2.2, Bool.and_true]
  · unfold erE
    rw [if_neg (by show ¬ (3 < 3 ∨ 7 < 3); decide)]
    rw [show wAt ((eraWs x).map bx) 0 = bx (picL offL (pkz x.kd 6)) from rfl, show er1S ((eraWs x).map bx) = er1W (bx (picL rlsL (pkz (x.kd.tdiv 6) 4))) from rfl, show (wAt ((eraWs x).map bx) 2).data.toList = picL fmtT (pkz x.rb 5) from rfl]
    rw [if_neg (by rw [h0.1]; simp), if_neg (by rw [h1.1]; simp), if_neg (by rw [h2.1]; simp), if_pos (by rfl)]
theorem era_more (x : Rz) (y : Int) (hy : 1900 ≤ y ∧ y ≤ 2080) : (eraWs x ++ untWs x y).all wok = true ∧ erE ((eraWs x ++ untWs x y).map bx) = 0 ∧ (erV ((eraWs x ++ untWs x y).map bx)).en = true := by
  have h0 := off_ok x.kd
  have h1 := rls_ok (x.kd.tdiv 6)
  have h2 := fmt_ok x.rb
  have hp := pkz_bd x.ra 20 (by decide)
  have h3 := yr_ok (n := y + pkz x.ra 20) (by omega)
  have h4 := mon_ok x.rc
  have h5 := day_ok x.ra
  have h6 := hrs_bare x.rb
  refine ⟨?_, ?_, rfl⟩
  · simp only [eraWs, untWs, List.cons_append, List.nil_append, List.all_cons, List.all_nil, h0.2, h1.2, h2.2, h3.2, h4.2, h5.2, h6.2, Bool.and_true]
  · unfold erE
    rw [if_neg (by show ¬ (7 < 3 ∨ 7 < 7); decide)]
    rw [show wAt ((eraWs x ++ untWs x y).map bx) 0 = bx (picL offL (pkz x.kd 6)) from rfl, show er1S ((eraWs x ++ untWs x y).map bx) = er1W (bx (picL rlsL (pkz (x.kd.tdiv 6) 4))) from rfl, show (wAt ((eraWs x ++ untWs x y).map bx) 2).data.toList = picL fmtT (pkz x.rb 5) from rfl, show wAt ((eraWs x ++ untWs x y).map bx) 3 = bx (Lib.itoa (y + pkz x.ra 20)) from rfl, show wAt ((eraWs x ++ untWs x y).map bx) 4 = bx (monT x.rc) from rfl, show wAt ((eraWs x ++ untWs x y).map bx) 5 = bx (dayT x.ra) from rfl, show wAt ((eraWs x ++ untWs x y).map bx) 6 = bx (hrsT x.rb) from rfl]
    rw [if_neg (by rw [h0.1]; simp), if_neg (by rw [h1.1]; simp), if_neg (by rw [h2.1]; simp), if_neg (by show ¬ (7 = 3); decide), if_neg (by rw [h3.1]; simp), if_neg (by rw [h4.1]; simp), if_neg (by rw [h5.1]; simp), if_pos (by show 6 < 7; decide), h6.1]
end Go.Proofs.YtbikdlcjbigafaaGreatDoor
